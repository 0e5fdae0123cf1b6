/- Merged: Lnb Lnc. -/
import Derived.Test.YtaadeobcnamgdaaGreatDoorZbal
import Derived.Test.YtaadeobcnamgdaaGreatDoorZbak
import Derived.Test.YtaadeobcnamgdaaGreatDoorZbam
import Derived.Test.YtaadeobcnamgdaaGreatDoorSxu
section
/- Line graphs: Pairs, Touch, Of; the document's. -/
namespace Go.Gr
theorem pairsN_le (d : Nat) : pairsN d ≤ d * d := by
  unfold pairsN
  have h : d * (d - 1) ≤ d * d := Nat.mul_le_mul_left d (by omega)
  omega
theorem pairs_int (d : Nat) (hd : d ≤ 32768) : 0 ≤ (d : Int) * ((d : Int) - 1) ∧ (d : Int) * ((d : Int) - 1) ≤ 1073741824 ∧ ((d : Int) * ((d : Int) - 1)).tdiv 2 = (pairsN d : Int) := by
  cases d with
  | zero => decide
  | succ d =>
    have e : ((d + 1 : Nat) : Int) * (((d + 1 : Nat) : Int) - 1) = (((d + 1) * d : Nat) : Int) := by push_cast; congr 1; omega
    rw [e]
    have h2 : (d + 1) * d ≤ 32768 * 32768 := Nat.mul_le_mul hd (by omega)
    refine ⟨by omega, by omega, ?_⟩
    rw [Int.tdiv_eq_ediv_of_nonneg (by omega)]
    unfold pairsN
    simp
theorem pairsOf_mono (E : List Edg) {v n : Nat} (h : v ≤ n) : (pairsOf E v).length ≤ (pairsOf E n).length := by
  induction n with
  | zero => have : v = 0 := by omega
            subst this; exact Nat.le_refl _
  | succ n ih =>
    rcases Nat.lt_or_ge v (n + 1) with h1 | h1
    · have := ih (by omega); rw [pairsOf_step, List.length_append]; omega
    · have : v = n + 1 := by omega
      subst this; exact Nat.le_refl _
theorem pairsOf_big (E : List Edg) (v : Nat) (h : ∀ u, (atD E u).length ≤ 32768) : (pairsOf E v).length ≤ v * 1073741824 := by
  induction v with
  | zero => simp [pairsOf]
  | succ v ih =>
    rw [pairsOf_step, List.length_append, pairUp_len]
    have h1 := pairsN_le (atD E v).length
    have h2 : (atD E v).length * (atD E v).length ≤ 32768 * 32768 := Nat.mul_le_mul (h v) (h v)
    omega
def pu (l : List Int) : Nat → List Edg
  | 0 => []
  | i + 1 => pu l i ++ (l.drop (i + 1)).map (fun b => ⟨(l[i]?).getD 0, b⟩)
theorem pu_cons (x : Int) (l : List Int) : ∀ i, pu (x :: l) (i + 1) = l.map (fun b => ⟨x, b⟩) ++ pu l i
  | 0 => by simp [pu]
  | i + 1 => by
    rw [pu, pu_cons x l i, pu]
    simp [List.append_assoc]
theorem pu_all : ∀ l : List Int, pu l l.length = pairUp l
  | [] => rfl
  | x :: l => by rw [List.length_cons, pu_cons, pu_all l]; rfl
theorem pu_mono (l : List Int) {i n : Nat} (h : i ≤ n) : (pu l i).length ≤ (pu l n).length := by
  induction n with
  | zero => have : i = 0 := by omega
            subst this; exact Nat.le_refl _
  | succ n ih =>
    rcases Nat.lt_or_ge i (n + 1) with h1 | h1
    · have := ih (by omega); rw [pu, List.length_append]; omega
    · have : i = n + 1 := by omega
      subst this; exact Nat.le_refl _
end Go.Gr
namespace Go.Proofs.YtaadeobcnamgdaaGreatDoor
open Go.Sx Go.RowKit Go.Reg Go.Gr

set_option maxRecDepth 100000
theorem gr_ne {G : Gr} (h : G.Ok) : ∀ e ∈ G.edges, e.a ≠ e.b := fun e he => by have := h.edge e he; omega
theorem at_len {G : Gr} (h : G.Ok) (v : Nat) : (atD G.edges v).length = deg G.edges v := atD_len G.edges v (gr_ne h)
theorem at_le {G : Gr} (h : G.Ok) (v : Nat) : (atD G.edges v).length ≤ 32768 := by
  rw [at_len h]
  have h1 := deg_le G.edges v
  have h2 := h.esize
  omega
def pl_lpairs : List (Nat × Plan) := []
def G_lpairs : List FuncId := []
theorem cok_lpairs : codeOk Tryz.prog G_lpairs pl_lpairs (Tryz.f155.body.getD .skip) = true := by kernel_rfl
theorem run_lpairs (vs : Array Value) (w : World) : (callFunc 155 vs).run C1.P w = .ok (.enter 155 vs) w := by kernel_rfl
theorem pairs_pure (G : Gr) (hG : G.Ok) : Pure C1 155 [dG G] (fun y => y = .int .i64 (pairsOf G.edges G.labels.length).length) := by
  have hs := hG.size
  refine pure_of c1_ok (pl := pl_lpairs) (G := G_lpairs) Tryz.func155 rfl Tryz.ntmps155 run_lpairs cok_lpairs (by simp) ?_
  ((conv => whnf); repeat' ((first | refine odw ?_ | refine ify ?_ | refine ifn ?_ | refine i6 ?_ | refine ati ?_ | refine mst ?_ | refine rmd ?_ | refine ibo (fun _ => ?_) (fun _ => ?_)) <;> conv => whnf))
  refine call_pure rfl (len_pure G) ?_; rintro y rfl
  ((conv => whnf); repeat' ((first | refine odw ?_ | refine ify ?_ | refine ifn ?_ | refine i6 ?_ | refine ati ?_ | refine mst ?_ | refine rmd ?_ | refine ibo (fun _ => ?_) (fun _ => ?_)) <;> conv => whnf))
  refine loop_lo (ι := Nat) (fun v => v ≤ G.labels.length) (fun v => [(8, .d (.int .i64 v)), (7, .d (.int .i64 G.labels.length)), (3, .d (.int .i64 (pairsOf G.edges v).length)), (0, .d (dG G))]) (fun _ => []) (fun v => G.labels.length - v) 0 (fun _ => rfl) (Nat.zero_le _) (.refl _ _) ⟨rfl, rfl, rfl, rfl, trivial⟩ trivial ?_
  intro v hv
  refine sxCode_sound c1_ok (G := G_lpairs) (pl := pl_lpairs) _ _ _ _ (by kernel_rfl) ?_
  by_cases hlt : v < G.labels.length
  · ((conv => whnf); repeat' ((first | refine odw ?_ | refine ify ?_ | refine ifn ?_ | refine i6 ?_ | refine ati ?_ | refine mst ?_ | refine rmd ?_ | refine ibo (fun _ => ?_) (fun _ => ?_)) <;> conv => whnf))
    refine call_pure rfl (degree_pure G hG v) ?_; rintro y rfl
    have e : degV G v = (atD G.edges v).length := by unfold degV; rw [if_pos (by omega), Int.toNat_natCast, at_len hG]
    have hd := at_le hG v
    have hp := pairs_int (atD G.edges v).length hd
    have hb := pairsOf_big G.edges v (at_le hG)
    have hn2 := pairsN_le (atD G.edges v).length
    have hst : (pairsOf G.edges (v + 1)).length = (pairsOf G.edges v).length + pairsN (atD G.edges v).length := by rw [pairsOf_step, List.length_append, pairUp_len]
    have hbn := pairsOf_big G.edges (v + 1) (at_le hG)
    rw [e]
    generalize (atD G.edges v).length = d at *
    ((conv => whnf); repeat' ((first | refine odw ?_ | refine ify ?_ | refine ifn ?_ | refine i6 ?_ | refine ati ?_ | refine mst ?_ | refine rmd ?_ | refine ibo (fun _ => ?_) (fun _ => ?_)) <;> conv => whnf))
    exact ⟨v + 1, _, _, hlt, .refl _ _, ⟨rfl, rfl, int_is (by rw [hp.2.2, hst]; omega), rfl, trivial⟩, trivial, by omega⟩
  · have hvn : v = G.labels.length := by omega
    subst hvn
    ((conv => whnf); repeat' ((first | refine odw ?_ | refine ify ?_ | refine ifn ?_ | refine i6 ?_ | refine ati ?_ | refine mst ?_ | refine rmd ?_ | refine ibo (fun _ => ?_) (fun _ => ?_)) <;> conv => whnf))
    exact rfl
/-! ### Of -/
def linesS : ByteArray := ⟨#[108, 105, 110, 101, 115]⟩
def lofY (G : Gr) : Da := if 16384 < (pairsOf G.edges G.labels.length).length then .tuple [.nilp, dS linesS (dF 6 0 graphS)] else .tuple [dG ⟨List.replicate G.edges.length 0, wantW G.edges G.edges.length⟩, .nili]
def pl_lof : List (Nat × Plan) := []
def G_lof : List FuncId := []
theorem cok_lof : codeOk Tryz.prog G_lof pl_lof (Tryz.f105.body.getD .skip) = true := by kernel_rfl
theorem run_lof (vs : Array Value) (w : World) : (callFunc 105 vs).run C1.P w = .ok (.enter 105 vs) w := by kernel_rfl
set_option maxHeartbeats 4000000 in
theorem lof_pure (G : Gr) (hG : G.Ok) (hm : G.edges.length ≤ 4096) : Pure C1 105 [dG G] (fun y => y = lofY G) := by
  have hs := hG.size
  refine pure_of c1_ok (pl := pl_lof) (G := G_lof) Tryz.func105 rfl Tryz.ntmps105 run_lof cok_lof (by simp) ?_
  ((conv => whnf); repeat' ((first | refine odw ?_ | refine ify ?_ | refine ifn ?_ | refine i6 ?_ | refine ati ?_ | refine mst ?_ | refine rmd ?_ | refine ibo (fun _ => ?_) (fun _ => ?_)) <;> conv => whnf))
  refine call_pure rfl (pairs_pure G hG) ?_; rintro y rfl
  by_cases hbig : 16384 < (pairsOf G.edges G.labels.length).length
  · have e : lofY G = .tuple [.nilp, dS linesS (dF 6 0 graphS)] := by unfold lofY; rw [if_pos hbig]
    rw [e]
    ((conv => whnf); repeat' ((first | refine odw ?_ | refine ify ?_ | refine ifn ?_ | refine i6 ?_ | refine ati ?_ | refine mst ?_ | refine rmd ?_ | refine ibo (fun _ => ?_) (fun _ => ?_)) <;> conv => whnf))
    refine call_pure rfl (fnew_pure 6 0 graphS) ?_; rintro y rfl
    ((conv => whnf); repeat' ((first | refine odw ?_ | refine ify ?_ | refine ifn ?_ | refine i6 ?_ | refine ati ?_ | refine mst ?_ | refine rmd ?_ | refine ibo (fun _ => ?_) (fun _ => ?_)) <;> conv => whnf))
    refine call_pure rfl (in_f_pure linesS 6 0 graphS) ?_; rintro y rfl
    ((conv => whnf); repeat' ((first | refine odw ?_ | refine ify ?_ | refine ifn ?_ | refine i6 ?_ | refine ati ?_ | refine mst ?_ | refine rmd ?_ | refine ibo (fun _ => ?_) (fun _ => ?_)) <;> conv => whnf))
    exact rfl
  have e : lofY G = .tuple [dG ⟨List.replicate G.edges.length 0, wantW G.edges G.edges.length⟩, .nili] := by unfold lofY; rw [if_neg hbig]
  rw [e]
  ((conv => whnf); repeat' ((first | refine odw ?_ | refine ify ?_ | refine ifn ?_ | refine i6 ?_ | refine ati ?_ | refine mst ?_ | refine rmd ?_ | refine ibo (fun _ => ?_) (fun _ => ?_)) <;> conv => whnf))
  refine call_pure rfl (len_pure G) ?_; rintro y rfl
  ((conv => whnf); repeat' ((first | refine odw ?_ | refine ify ?_ | refine ifn ?_ | refine i6 ?_ | refine ati ?_ | refine mst ?_ | refine rmd ?_ | refine ibo (fun _ => ?_) (fun _ => ?_)) <;> conv => whnf))
  refine loop_lo (ι := Nat) (fun v => v ≤ G.labels.length) (fun v => [(20, .d (.int .i64 v)), (19, .d (.int .i64 G.labels.length)), (4, .own 300), (0, .d (dG G))]) (fun v => [(300, .slice 128 2 ((pairsOf G.edges v).map dE))]) (fun v => G.labels.length - v) 0 (fun _ => rfl) (Nat.zero_le _)
    (.own 4 300 128 2 rfl rfl (.refl _ _)) ⟨rfl, rfl, rfl, rfl, trivial⟩ ⟨rfl, trivial⟩ ?_
  intro v hv
  refine sxCode_sound c1_ok (G := G_lof) (pl := pl_lof) _ _ _ _ (by kernel_rfl) ?_
  by_cases hlt : v < G.labels.length
  · have hcap := pairsOf_mono G.edges (show v + 1 ≤ G.labels.length by omega)
    rw [pairsOf_step, List.length_append] at hcap
    have hat : atY G v = dIs (atD G.edges v) := by unfold atY; rw [if_pos (by omega), Int.toNat_natCast]
    have hpall := pu_all (atD G.edges v)
    have hstep := pairsOf_step G.edges v
    have hl32 := at_le hG v
    ((conv => whnf); repeat' ((first | refine odw ?_ | refine ify ?_ | refine ifn ?_ | refine i6 ?_ | refine ati ?_ | refine mst ?_ | refine rmd ?_ | refine ibo (fun _ => ?_) (fun _ => ?_)) <;> conv => whnf))
    refine call_pure rfl (at_pure G hG v) ?_; rintro y rfl
    rw [hat]
    generalize atD G.edges v = l at *
    have hll : (l.map dI).length = l.length := List.length_map _
    ((conv => whnf); repeat' ((first | refine odw ?_ | refine ify ?_ | refine ifn ?_ | refine i6 ?_ | refine ati ?_ | refine mst ?_ | refine rmd ?_ | refine ibo (fun _ => ?_) (fun _ => ?_)) <;> conv => whnf))
    refine loop_lo (ι := Nat) (fun i => i ≤ l.length) (fun i => [(28, .d (.int .i64 i)), (27, .d (.int .i64 (l.map dI).length)), (26, .d (dIs l)), (6, .d (dIs l)), (20, .d (.int .i64 v)), (19, .d (.int .i64 G.labels.length)), (4, .own 300), (0, .d (dG G))])
      (fun i => [(300, .slice 128 2 ((pairsOf G.edges v ++ pu l i).map dE))]) (fun i => l.length - i) 0 (fun _ => rfl) (Nat.zero_le _) (.refl _ _) ⟨rfl, rfl, rfl, rfl, rfl, rfl, rfl, rfl, trivial⟩ ⟨slice_is (by simp [pu]), trivial⟩ ?_
    intro i hi
    refine sxCode_sound c1_ok (G := G_lof) (pl := pl_lof) _ _ _ _ (by kernel_rfl) ?_
    by_cases hil : i < l.length
    · have hx := List.getElem?_eq_getElem hil
      have hpu : pu l (i + 1) = pu l i ++ (l.drop (i + 1)).map (fun b => ⟨l[i], b⟩) := by rw [pu, hx]; rfl
      generalize l[i] = a at hx hpu
      have hxd : (l.map dI)[i]? = some (.int .i64 a) := by rw [List.getElem?_map, hx]; rfl
      have hmn := pu_mono l (show i + 1 ≤ l.length by omega)
      rw [hpall] at hmn
      rw [hpu, List.length_append, List.length_map] at hmn
      (repeat' ((first | refine ord_ok (by (conv => whnf); (repeat' ((first | refine at_da hxd rfl ?_ | refine sl_is (i + 1) rfl (by rw [List.length_map]; omega) ?_ | refine ify ?_ | refine ifn ?_ | refine i6 ?_ | refine ati ?_ | refine mst ?_ | refine rmd ?_ | refine ibo (fun _ => ?_) (fun _ => ?_)) <;> conv => whnf)); (all_goals (repeat' (first | exact trivial | exact rfl | refine And.intro ?_ ?_)))) ?_ | refine at_da hxd rfl ?_ | refine sl_is (i + 1) rfl (by rw [List.length_map]; omega) ?_ | refine ify ?_ | refine ifn ?_ | refine i6 ?_ | refine ati ?_ | refine mst ?_ | refine rmd ?_ | refine ibo (fun _ => ?_) (fun _ => ?_)) <;> conv => whnf))
      rw [← List.map_drop]
      generalize hD : l.drop (i + 1) = D at hmn hpu ⊢
      have hDl : (D.map dI).length = D.length := List.length_map _
      refine loop_lo (ι := Nat) (fun k => k ≤ D.length) (fun k => [(38, .d (.int .i64 k)), (37, .d (.int .i64 (D.map dI).length)), (36, .d (dIs D)), (8, .d (.int .i64 a)), (28, .d (.int .i64 i)), (27, .d (.int .i64 (l.map dI).length)), (26, .d (dIs l)), (6, .d (dIs l)), (20, .d (.int .i64 v)), (19, .d (.int .i64 G.labels.length)), (4, .own 300), (0, .d (dG G))])
        (fun k => [(300, .slice 128 2 ((pairsOf G.edges v ++ pu l i ++ (D.take k).map (fun b => (⟨a, b⟩ : Edg))).map dE))]) (fun k => D.length - k) 0 (fun _ => rfl) (Nat.zero_le _) (.refl _ _) ⟨rfl, rfl, rfl, rfl, rfl, rfl, rfl, rfl, rfl, rfl, rfl, rfl, trivial⟩ ⟨slice_is (by simp), trivial⟩ ?_
      intro k hk
      refine sxCode_sound c1_ok (G := G_lof) (pl := pl_lof) _ _ _ _ (by kernel_rfl) ?_
      by_cases hkl : k < D.length
      · have hxk := List.getElem?_eq_getElem hkl
        generalize D[k] = b at hxk
        have hxkd : (D.map dI)[k]? = some (.int .i64 b) := by rw [List.getElem?_map, hxk]; rfl
        have hfin : (pairsOf G.edges v ++ pu l i ++ (D.take k).map (fun b => (⟨a, b⟩ : Edg))).map dE ++ [.agg [.int .i64 a, .int .i64 b]] = (pairsOf G.edges v ++ pu l i ++ (D.take (k + 1)).map (fun b => (⟨a, b⟩ : Edg))).map dE := by
          rw [List.take_add_one, hxk]; simp [dE]
        (repeat' ((first | refine ord_ok (by (conv => whnf); (repeat' ((first | refine at_da hxkd rfl ?_ | refine ify ?_ | refine ifn ?_ | refine i6 ?_ | refine ati ?_ | refine mst ?_ | refine rmd ?_ | refine ibo (fun _ => ?_) (fun _ => ?_)) <;> conv => whnf)); (all_goals (repeat' (first | exact trivial | exact rfl | refine And.intro ?_ ?_)))) ?_ | refine at_da hxkd rfl ?_ | refine ify ?_ | refine ifn ?_ | refine i6 ?_ | refine ati ?_ | refine mst ?_ | refine rmd ?_ | refine ibo (fun _ => ?_) (fun _ => ?_)) <;> conv => whnf))
        exact ⟨k + 1, _, _, hkl, .refl _ _, ⟨rfl, rfl, rfl, rfl, rfl, rfl, rfl, rfl, rfl, rfl, rfl, rfl, trivial⟩, ⟨slice_is hfin, trivial⟩, by omega⟩
      · have hkD : D.take k = D := List.take_of_length_le (by omega)
        rw [hkD]
        ((conv => whnf); repeat' ((first | refine odw ?_ | refine ify ?_ | refine ifn ?_ | refine i6 ?_ | refine ati ?_ | refine mst ?_ | refine rmd ?_ | refine ibo (fun _ => ?_) (fun _ => ?_)) <;> conv => whnf))
        exact ⟨i + 1, _, _, hil, .refl _ _, ⟨rfl, rfl, rfl, rfl, rfl, rfl, rfl, rfl, trivial⟩, ⟨slice_is (by rw [hpu, List.append_assoc]), trivial⟩, by omega⟩
    · have hii : i = l.length := by omega
      subst hii
      rw [hpall]
      ((conv => whnf); repeat' ((first | refine odw ?_ | refine ify ?_ | refine ifn ?_ | refine i6 ?_ | refine ati ?_ | refine mst ?_ | refine rmd ?_ | refine ibo (fun _ => ?_) (fun _ => ?_)) <;> conv => whnf))
      exact ⟨v + 1, _, _, hlt, .refl _ _, ⟨rfl, rfl, rfl, rfl, trivial⟩, ⟨slice_is (by rw [hstep]), trivial⟩, by omega⟩
  · have hvn : v = G.labels.length := by omega
    subst hvn
    ((conv => whnf); repeat' ((first | refine odw ?_ | refine ify ?_ | refine ifn ?_ | refine i6 ?_ | refine ati ?_ | refine mst ?_ | refine rmd ?_ | refine ibo (fun _ => ?_) (fun _ => ?_)) <;> conv => whnf))
    refine call_pure rfl (size_pure G) ?_; rintro y rfl
    (conv => whnf)
    (repeat' ((first | refine ord_ok (by (conv => whnf); (repeat' ((first | refine mk_ok G.edges.length rfl rfl (by omega) ?_ | refine ify ?_ | refine ifn ?_ | refine i6 ?_ | refine ati ?_ | refine mst ?_ | refine rmd ?_ | refine ibo (fun _ => ?_) (fun _ => ?_)) <;> conv => whnf)); (all_goals (repeat' (first | exact trivial | exact rfl | refine And.intro ?_ ?_)))) ?_ | refine mk_ok G.edges.length rfl rfl (by omega) ?_ | refine ify ?_ | refine ifn ?_ | refine i6 ?_ | refine ati ?_ | refine mst ?_ | refine rmd ?_ | refine ibo (fun _ => ?_) (fun _ => ?_)) <;> conv => whnf))
    have hz : List.replicate G.edges.length (dI 0) = (List.replicate G.edges.length 0).map dI := by simp
    refine call_frz 54 rfl ?_
    refine call_frz 300 rfl ?_
    refine call_pure (xs := [dIs (List.replicate G.edges.length 0), dEs (pairsOf G.edges G.labels.length)]) (by show some [Da.list 1 (List.replicate G.edges.length (dI 0)), _] = _; rw [hz]; rfl) (new_pure _ _) ?_; rintro y rfl
    rw [newY_none (lines_newErr hG hm (by omega)), lines_canon hG]
    ((conv => whnf); repeat' ((first | refine odw ?_ | refine ify ?_ | refine ifn ?_ | refine i6 ?_ | refine ati ?_ | refine mst ?_ | refine rmd ?_ | refine ibo (fun _ => ?_) (fun _ => ?_)) <;> conv => whnf))
    all_goals exact rfl
/-! ### Touch -/
/-- do two edges touch, by any numbers -/
def touchV (E : List Edg) (a b : Int) : Bool := decide (0 ≤ a) && decide (0 ≤ b) && tch E a.toNat b.toNat
theorem touchV_no {E : List Edg} {a b : Int} (h : ¬ (0 ≤ a ∧ a < E.length) ∨ ¬ (0 ≤ b ∧ b < E.length) ∨ a = b) : touchV E a b = false := by
  unfold touchV tch
  by_cases ha : 0 ≤ a
  · by_cases hb : 0 ≤ b
    · obtain ⟨m, rfl⟩ := Int.eq_ofNat_of_zero_le ha
      obtain ⟨n, rfl⟩ := Int.eq_ofNat_of_zero_le hb
      simp only [Int.toNat_natCast]
      by_cases hm : m < E.length
      · by_cases hn : n < E.length
        · have : m = n := by omega
          subst this
          rw [List.getElem?_eq_getElem hm]; simp
        · rw [List.getElem?_eq_none (l := E) (i := n) (by omega), List.getElem?_eq_getElem hm]; simp
      · rw [List.getElem?_eq_none (l := E) (i := m) (by omega)]; simp
    · simp [hb]
  · simp [ha]
theorem touchV_at {E : List Edg} {m n : Nat} {x y : Edg} (hx : E[m]? = some x) (hy : E[n]? = some y) (hne : m ≠ n) : touchV E m n = (decide (x.a = y.a) || decide (x.a = y.b) || decide (x.b = y.a) || decide (x.b = y.b)) := by
  unfold touchV tch
  have h1 : (0 : Int) ≤ m := by omega
  have h2 : (0 : Int) ≤ n := by omega
  simp only [Int.toNat_natCast, hx, hy, h1, h2, decide_true, Bool.true_and, ne_eq, hne, not_false_eq_true]
def pl_ltouch : List (Nat × Plan) := []
def G_ltouch : List FuncId := []
theorem cok_ltouch : codeOk Tryz.prog G_ltouch pl_ltouch (Tryz.f173.body.getD .skip) = true := by kernel_rfl
theorem run_ltouch (vs : Array Value) (w : World) : (callFunc 173 vs).run C1.P w = .ok (.enter 173 vs) w := by kernel_rfl
set_option maxHeartbeats 1000000 in
theorem touch_pure (G : Gr) (a b : Int) : Pure C1 173 [dG G, .int .i64 a, .int .i64 b] (fun y => y = .bool (touchV G.edges a b)) := by
  refine pure_of c1_ok (pl := pl_ltouch) (G := G_ltouch) Tryz.func173 rfl Tryz.ntmps173 run_ltouch cok_ltouch (by simp) ?_
  ((conv => whnf); repeat' ((first | refine odw ?_ | refine ify ?_ | refine ifn ?_ | refine i6 ?_ | refine ati ?_ | refine mst ?_ | refine rmd ?_ | refine ibo (fun _ => ?_) (fun _ => ?_)) <;> conv => whnf))
  refine call_pure rfl (edge_pure G a) ?_; rintro y rfl
  by_cases ha : 0 ≤ a ∧ a < G.edges.length
  · obtain ⟨m, rfl⟩ := Int.eq_ofNat_of_zero_le ha.1
    have hmm : m < G.edges.length := by omega
    have hx := List.getElem?_eq_getElem hmm
    generalize G.edges[m] = x at hx
    have e : edgeY G.edges (m : Int) = .tuple [dE x, .bool true] := by unfold edgeY; rw [if_pos ha, Int.toNat_natCast, hx]; rfl
    obtain ⟨xa, xb⟩ := x
    rw [e, show dE ⟨xa, xb⟩ = .agg [.int .i64 xa, .int .i64 xb] from rfl]
    ((conv => whnf); repeat' ((first | refine odw ?_ | refine ify ?_ | refine ifn ?_ | refine i6 ?_ | refine ati ?_ | refine mst ?_ | refine rmd ?_ | refine ibo (fun _ => ?_) (fun _ => ?_)) <;> conv => whnf))
    refine call_pure rfl (edge_pure G b) ?_; rintro y rfl
    by_cases hb : 0 ≤ b ∧ b < G.edges.length
    · obtain ⟨n, rfl⟩ := Int.eq_ofNat_of_zero_le hb.1
      have hnn : n < G.edges.length := by omega
      have hy := List.getElem?_eq_getElem hnn
      generalize G.edges[n] = y at hy
      have e : edgeY G.edges (n : Int) = .tuple [dE y, .bool true] := by unfold edgeY; rw [if_pos hb, Int.toNat_natCast, hy]; rfl
      obtain ⟨ya, yb⟩ := y
      rw [e, show dE ⟨ya, yb⟩ = .agg [.int .i64 ya, .int .i64 yb] from rfl]
      by_cases hne : m = n
      · rw [touchV_no (.inr (.inr (by rw [hne])))]
        ((conv => whnf); repeat' ((first | refine odw ?_ | refine ify ?_ | refine ifn ?_ | refine i6 ?_ | refine ati ?_ | refine mst ?_ | refine rmd ?_ | refine ibo (fun _ => ?_) (fun _ => ?_)) <;> conv => whnf))
        exact rfl
      · rw [touchV_at hx hy hne]
        by_cases h1 : xa = ya
        · ((conv => whnf); repeat' ((first | refine odw ?_ | refine ify ?_ | refine ifn ?_ | refine i6 ?_ | refine ati ?_ | refine mst ?_ | refine rmd ?_ | refine ibo (fun _ => ?_) (fun _ => ?_)) <;> conv => whnf))
          exact Eq.trans (b := Da.bool true) rfl (by simp [h1])
        by_cases h2 : xa = yb
        · ((conv => whnf); repeat' ((first | refine odw ?_ | refine ify ?_ | refine ifn ?_ | refine i6 ?_ | refine ati ?_ | refine mst ?_ | refine rmd ?_ | refine ibo (fun _ => ?_) (fun _ => ?_)) <;> conv => whnf))
          exact Eq.trans (b := Da.bool true) rfl (by simp [h2])
        by_cases h3 : xb = ya
        · ((conv => whnf); repeat' ((first | refine odw ?_ | refine ify ?_ | refine ifn ?_ | refine i6 ?_ | refine ati ?_ | refine mst ?_ | refine rmd ?_ | refine ibo (fun _ => ?_) (fun _ => ?_)) <;> conv => whnf))
          exact Eq.trans (b := Da.bool true) rfl (by simp [h3])
        · ((conv => whnf); repeat' ((first | refine odw ?_ | refine ify ?_ | refine ifn ?_ | refine i6 ?_ | refine ati ?_ | refine mst ?_ | refine rmd ?_ | refine ibo (fun _ => ?_) (fun _ => ?_)) <;> conv => whnf))
          show Da.plain _ = _
          simp [Da.plain, h1, h2, h3]
    · have e : edgeY G.edges b = .tuple [dE ⟨0, 0⟩, .bool false] := by unfold edgeY; rw [if_neg hb]
      rw [e, touchV_no (.inr (.inl hb))]
      ((conv => whnf); repeat' ((first | refine odw ?_ | refine ify ?_ | refine ifn ?_ | refine i6 ?_ | refine ati ?_ | refine mst ?_ | refine rmd ?_ | refine ibo (fun _ => ?_) (fun _ => ?_)) <;> conv => whnf))
      exact rfl
  · have e : edgeY G.edges a = .tuple [dE ⟨0, 0⟩, .bool false] := by unfold edgeY; rw [if_neg ha]
    rw [e, touchV_no (.inl ha)]
    ((conv => whnf); repeat' ((first | refine odw ?_ | refine ify ?_ | refine ifn ?_ | refine i6 ?_ | refine ati ?_ | refine mst ?_ | refine rmd ?_ | refine ibo (fun _ => ?_) (fun _ => ?_)) <;> conv => whnf))
    refine call_pure rfl (edge_pure G b) ?_; rintro y rfl
    by_cases hb : 0 ≤ b ∧ b < G.edges.length
    · have e : edgeY G.edges b = .tuple [dE ((G.edges[b.toNat]?).getD ⟨0, 0⟩), .bool true] := by unfold edgeY; rw [if_pos hb]
      rw [e]
      ((conv => whnf); repeat' ((first | refine odw ?_ | refine ify ?_ | refine ifn ?_ | refine i6 ?_ | refine ati ?_ | refine mst ?_ | refine rmd ?_ | refine ibo (fun _ => ?_) (fun _ => ?_)) <;> conv => whnf))
      exact rfl
    · have e : edgeY G.edges b = .tuple [dE ⟨0, 0⟩, .bool false] := by unfold edgeY; rw [if_neg hb]
      rw [e]
      ((conv => whnf); repeat' ((first | refine odw ?_ | refine ify ?_ | refine ifn ?_ | refine i6 ?_ | refine ati ?_ | refine mst ?_ | refine rmd ?_ | refine ibo (fun _ => ?_) (fun _ => ?_)) <;> conv => whnf))
      exact rfl
theorem touchV_nat (E : List Edg) (m n : Nat) : touchV E m n = tch E m n := by
  unfold touchV
  have h1 : (0 : Int) ≤ m := by omega
  have h2 : (0 : Int) ≤ n := by omega
  simp [h1, h2]
/-! ### the document's -/
end Go.Proofs.YtaadeobcnamgdaaGreatDoor
end

section
/- LinesOf: the walk. -/
namespace Go.Proofs.YtaadeobcnamgdaaGreatDoor
open Go.Sx Go.RowKit Go.Reg Go.Gr

set_option maxRecDepth 100000
/-! ### the chapter's example -/
/-! ### the statement -/
theorem pairs_small {G : Gr} (_hG : G.Ok) (hn : G.labels.length ≤ 10) (hm : G.edges.length ≤ 30) : (pairsOf G.edges G.labels.length).length ≤ 16384 := by
  have key : ∀ v, (pairsOf G.edges v).length ≤ v * 900 := by
    intro v
    induction v with
    | zero => simp [pairsOf]
    | succ v ih =>
      rw [pairsOf_step, List.length_append, pairUp_len]
      have h0 : (atD G.edges v).length ≤ 30 := by
        unfold atD
        rw [List.length_map]
        have := List.length_filter_le (fun p : Edg × Nat => decide (p.1.a = (v : Int) ∨ p.1.b = (v : Int))) G.edges.zipIdx
        rw [List.length_zipIdx] at this
        omega
      have h1 := pairsN_le (atD G.edges v).length
      have h2 : (atD G.edges v).length * (atD G.edges v).length ≤ 30 * 30 := Nat.mul_le_mul h0 h0
      omega
  have := key G.labels.length
  omega
def lnG (G : Gr) : Gr := ⟨List.replicate G.edges.length 0, wantW G.edges G.edges.length⟩
theorem lofY_small {G : Gr} (hG : G.Ok) (hn : G.labels.length ≤ 10) (hm : G.edges.length ≤ 30) : lofY G = .tuple [dG (lnG G), .nili] := by
  unfold lofY
  have := pairs_small hG hn hm
  rw [if_neg (by omega)]
  rfl
end Go.Proofs.YtaadeobcnamgdaaGreatDoor
end
