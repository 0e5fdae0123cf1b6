/- ref08: Made. ref12: Whole. law08: Of. -/
import Derived.Test.YteigfapjiekdnaaGreatDoorPtd
import Derived.Test.YteigfapjiekdnaaGreatDoorRfa
import Derived.Test.YteigfapjiekdnaaGreatDoorGrh
namespace Go.Gr
/-- pairs of places, the lesser first, of which f is told -/
def rowF (f : Nat → Nat → Bool) (a b : Nat) : List Edg := ((List.range b).filter fun x => decide (a < x) && f a x).map fun x : Nat => ⟨(a : Int), (x : Int)⟩
def rowsF (f : Nat → Nat → Bool) (n a : Nat) : List Edg := (List.range a).flatMap fun j => rowF f j n
theorem rowF_start (f : Nat → Nat → Bool) (a : Nat) : rowF f a (a + 1) = [] := by
  unfold rowF
  have : (List.range (a + 1)).filter (fun x => decide (a < x) && f a x) = [] := by
    rw [List.filter_eq_nil_iff]
    intro b hb
    have := List.mem_range.1 hb
    simp; omega
  rw [this]; rfl
theorem rowF_step {f : Nat → Nat → Bool} {a b : Nat} (h : a < b) : rowF f a (b + 1) = rowF f a b ++ if f a b then [⟨(a : Int), (b : Int)⟩] else [] := by
  unfold rowF
  rw [List.range_succ, List.filter_append, List.map_append]
  congr 1
  by_cases hf : f a b <;> simp [h, hf]
theorem rowsF_step (f : Nat → Nat → Bool) (n a : Nat) : rowsF f n (a + 1) = rowsF f n a ++ rowF f a n := by simp [rowsF, List.range_succ]
theorem rowF_len (f : Nat → Nat → Bool) (a b : Nat) : (rowF f a b).length ≤ b := by
  unfold rowF
  rw [List.length_map]
  exact Nat.le_trans (List.length_filter_le _ _) (by simp)
theorem rowsF_len (f : Nat → Nat → Bool) (n : Nat) : ∀ a, (rowsF f n a).length ≤ a * n
  | 0 => by simp [rowsF]
  | a + 1 => by
    have h1 := rowsF_len f n a
    have h2 := rowF_len f a n
    rw [rowsF_step, List.length_append, Nat.add_mul, Nat.one_mul]; omega
theorem mem_rowsF {f : Nat → Nat → Bool} {n a : Nat} {e : Edg} : e ∈ rowsF f n a ↔ ∃ j x : Nat, j < a ∧ x < n ∧ j < x ∧ f j x = true ∧ e = ⟨(j : Int), (x : Int)⟩ := by
  simp only [rowsF, rowF, List.mem_flatMap, List.mem_range, List.mem_map, List.mem_filter, Bool.and_eq_true, decide_eq_true_eq]
  constructor
  · rintro ⟨j, hj, x, ⟨h1, h2, h3⟩, rfl⟩; exact ⟨j, x, hj, h1, h2, h3, rfl⟩
  · rintro ⟨j, x, hj, h1, h2, h3, rfl⟩; exact ⟨j, hj, x, ⟨h1, h2, h3⟩, rfl⟩
def pairF (E : List Edg) (L : List Int) (a b : Nat) : Bool := hasR E ((L[a]?).getD 0) ((L[b]?).getD 0)
/-- what a list's pattern has for edges -/
def madeE (E : List Edg) (L : List Int) : List Edg := rowsF (pairF E L) L.length L.length
end Go.Gr
namespace Go.Proofs.YteigfapjiekdnaaGreatDoor
open Go.Sx Go.RowKit Go.Reg Go.Gr

set_option maxRecDepth 100000
def pl_r8m : List (Nat × Plan) := [(8, .leaf [1, 0, 0, 0, 1, 0, 0, 0, 1, 2] [1, 2, 3, 5, 6, 7, 0, 4, 8, 9] [0, 0, 0, 6, 14, 0, 0, 96, 224, 511])]
def G_r8m : List FuncId := [65]
theorem cok_r8m : codeOk Tryz.prog G_r8m pl_r8m (Tryz.f124.body.getD .skip) = true := by kernel_rfl
theorem run_r8m (vs : Array Value) (w : World) : (callFunc 124 vs).run C1.P w = .ok (.enter 124 vs) w := by kernel_rfl
set_option maxHeartbeats 4000000 in
theorem rmade_pure (l : List Int) (p : Pt) (L : List Int) (hL : L.length ≤ 1000) (hme : p.edges.length ≤ 9223372036854775807) : Pure C1 124 [dIs l, dPt p, dIs L] (fun y => y = dPt ⟨l, madeE p.edges L⟩) := by
  have hdL : (L.map dI).length = L.length := List.length_map _
  have hL2 : L.length * L.length ≤ 1000 * 1000 := Nat.mul_le_mul hL hL
  refine pure_of c1_ok (pl := pl_r8m) (G := G_r8m) Tryz.func124 rfl Tryz.ntmps124 run_r8m cok_r8m (by simp) ?_
  ((conv => whnf); repeat' ((first | refine odw ?_ | refine ify ?_ | refine ifn ?_ | refine i6 ?_ | refine ati ?_ | refine mst ?_ | refine rmd ?_ | refine ibo (fun _ => ?_) (fun _ => ?_)) <;> conv => whnf))
  refine loop_lo (ι := Nat) (fun a => a ≤ L.length) (fun a => [(8, .d (.int .i64 a)), (7, .own 7), (6, .own 6), (4, .own 4), (2, .d (dIs L))]) (fun a => [(4, .cells 47 [.d (dIs p.labels), .d (dEs p.edges)]), (6, .cells 47 [.d .nils, .d .nils]), (7, .cells 47 [.d (dIs l), .own 301]), (301, .slice 86 2 ((rowsF (pairF p.edges L) L.length a).map dE))]) (fun a => L.length - a) 0 (fun _ => rfl) (Nat.zero_le _) (.ownc 7 301 86 2 rfl rfl (.there _ (.here _)) (.refl _ _)) ⟨rfl, rfl, rfl, rfl, rfl, trivial⟩ ⟨rfl, rfl, rfl, rfl, trivial⟩ ?_
  intro a ha
  refine sxCode_sound c1_ok (G := G_r8m) (pl := pl_r8m) _ _ _ _ (by kernel_rfl) ?_
  by_cases hal : a < L.length
  · ((conv => whnf); repeat' ((first | refine odw ?_ | refine ify ?_ | refine ifn ?_ | refine i6 ?_ | refine ati ?_ | refine mst ?_ | refine rmd ?_ | refine ibo (fun _ => ?_) (fun _ => ?_)) <;> conv => whnf))
    have hx := List.getElem?_eq_getElem hal
    have hxd : (L.map dI)[a]? = some (.int .i64 L[a]) := by rw [List.getElem?_map, hx]; rfl
    have hrl := rowsF_len (pairF p.edges L) L.length a
    have hrl2 : a * L.length ≤ L.length * L.length := Nat.mul_le_mul_right _ ha
    refine loop_lo (ι := Nat) (fun b => a + 1 ≤ b ∧ b ≤ L.length) (fun b => [(9, .d (.int .i64 b)), (8, .d (.int .i64 a)), (7, .own 7), (6, .own 6), (4, .own 4), (2, .d (dIs L))]) (fun b => [(4, .cells 47 [.d (dIs p.labels), .d (dEs p.edges)]), (6, .cells 47 [.d .nils, .d .nils]), (7, .cells 47 [.d (dIs l), .own 301]), (301, .slice 86 2 ((rowsF (pairF p.edges L) L.length a ++ rowF (pairF p.edges L) a b).map dE))]) (fun b => L.length - b) (a + 1) (fun _ => rfl) ⟨Nat.le_refl _, hal⟩ (.refl _ _) ⟨int_is (by omega), rfl, rfl, rfl, rfl, rfl, trivial⟩ ⟨rfl, rfl, rfl, by rw [rowF_start, List.append_nil]; rfl, trivial⟩ ?_
    rintro b ⟨hab, hb⟩
    refine sxCode_sound c1_ok (G := G_r8m) (pl := pl_r8m) _ _ _ _ (by kernel_rfl) ?_
    by_cases hbl : b < L.length
    · have hy := List.getElem?_eq_getElem hbl
      have hyd : (L.map dI)[b]? = some (.int .i64 L[b]) := by rw [List.getElem?_map, hy]; rfl
      have hh := rhas_pure p L[a] L[b] hme
      have hf : pairF p.edges L a b = hasR p.edges L[a] L[b] := by unfold pairF; rw [hx, hy]; rfl
      have hst := rowF_step (f := pairF p.edges L) (a := a) (b := b) (by omega)
      have hrl3 := rowF_len (pairF p.edges L) a b
      have hll : ((rowsF (pairF p.edges L) L.length a ++ rowF (pairF p.edges L) a b).map dE).length ≤ 2000000 := by rw [List.length_map, List.length_append]; omega
      cases hv : hasR p.edges L[a] L[b] with
      | true =>
        rw [hv] at hh hf
        rw [hf, if_pos rfl] at hst
        (conv => whnf)
        (repeat' ((first | refine ord_ok (by (conv => whnf); (repeat' ((first | refine at_da hxd rfl ?_ | refine at_da hyd rfl ?_ | refine call_eqb tab rfl hh rfl ?_ | refine ify ?_ | refine ifn ?_ | refine i6 ?_ | refine ati ?_ | refine mst ?_ | refine rmd ?_ | refine ibo (fun _ => ?_) (fun _ => ?_)) <;> conv => whnf)); (all_goals (repeat' (first | exact trivial | exact rfl | refine And.intro ?_ ?_)))) ?_ | refine at_da hxd rfl ?_ | refine at_da hyd rfl ?_ | refine call_eqb tab rfl hh rfl ?_ | refine ify ?_ | refine ifn ?_ | refine i6 ?_ | refine ati ?_ | refine mst ?_ | refine rmd ?_ | refine ibo (fun _ => ?_) (fun _ => ?_)) <;> conv => whnf))
        refine ⟨b + 1, _, _, ⟨by omega, by omega⟩, .refl _ _, ⟨int_is (by omega), rfl, rfl, rfl, rfl, rfl, trivial⟩, ⟨rfl, rfl, rfl, ?_, trivial⟩, by omega⟩
        refine slice_is ?_
        rw [hst]; simp [dE]
      | false =>
        rw [hv] at hh hf
        rw [hf, if_neg (by decide), List.append_nil] at hst
        (conv => whnf)
        (repeat' ((first | refine ord_ok (by (conv => whnf); (repeat' ((first | refine at_da hxd rfl ?_ | refine at_da hyd rfl ?_ | refine call_eqb tab rfl hh rfl ?_ | refine ify ?_ | refine ifn ?_ | refine i6 ?_ | refine ati ?_ | refine mst ?_ | refine rmd ?_ | refine ibo (fun _ => ?_) (fun _ => ?_)) <;> conv => whnf)); (all_goals (repeat' (first | exact trivial | exact rfl | refine And.intro ?_ ?_)))) ?_ | refine at_da hxd rfl ?_ | refine at_da hyd rfl ?_ | refine call_eqb tab rfl hh rfl ?_ | refine ify ?_ | refine ifn ?_ | refine i6 ?_ | refine ati ?_ | refine mst ?_ | refine rmd ?_ | refine ibo (fun _ => ?_) (fun _ => ?_)) <;> conv => whnf))
        exact ⟨b + 1, _, _, ⟨by omega, by omega⟩, .refl _ _, ⟨int_is (by omega), rfl, rfl, rfl, rfl, rfl, trivial⟩, ⟨rfl, rfl, rfl, slice_is (by rw [hst]), trivial⟩, by omega⟩
    · have hbe : b = L.length := by omega
      subst hbe
      ((conv => whnf); repeat' ((first | refine odw ?_ | refine ify ?_ | refine ifn ?_ | refine i6 ?_ | refine ati ?_ | refine mst ?_ | refine rmd ?_ | refine ibo (fun _ => ?_) (fun _ => ?_)) <;> conv => whnf))
      refine ⟨a + 1, _, _, by omega, .refl _ _, ⟨int_is (by omega), rfl, rfl, rfl, rfl, trivial⟩, ⟨rfl, rfl, rfl, slice_is (by rw [rowsF_step]), trivial⟩, by omega⟩
  · have hae : a = L.length := by omega
    subst hae
    ((conv => whnf); repeat' ((first | refine odw ?_ | refine ify ?_ | refine ifn ?_ | refine i6 ?_ | refine ati ?_ | refine mst ?_ | refine rmd ?_ | refine ibo (fun _ => ?_) (fun _ => ?_)) <;> conv => whnf))
    exact rfl
def pl_r12w : List (Nat × Plan) := [(5, .leaf [0, 0, 1, 0, 0, 0, 1, 0, 1, 6, 3, 0] [0, 1, 3, 4, 5, 2, 6, 7, 8, 9, 10, 11] [0, 0, 2, 0, 0, 24, 56, 126, 254, 510, 1023, 2047])]
def G_r12w : List FuncId := [124]
theorem cok_r12w : codeOk Tryz.prog G_r12w pl_r12w (Tryz.f64.body.getD .skip) = true := by kernel_rfl
theorem run_r12w (vs : Array Value) (w : World) : (callFunc 64 vs).run C1.P w = .ok (.enter 64 vs) w := by kernel_rfl
set_option maxHeartbeats 4000000 in
theorem whole_pure (G : Gr) (L : List Int) (hL : L.length ≤ 1000) (hGe : G.edges.length ≤ 9223372036854775807) (hv : ∀ x ∈ L, 0 ≤ x ∧ x < G.labels.length) : Pure C1 64 [dM G.labels G.edges, dIs L] (fun y => y = dPt ⟨L.map (labelV G), madeE G.edges L⟩) := by
  have hdL : (L.map dI).length = L.length := List.length_map _
  have hdG : (G.labels.map dI).length = G.labels.length := List.length_map _
  refine pure_of c1_ok (pl := pl_r12w) (G := G_r12w) Tryz.func64 rfl Tryz.ntmps64 run_r12w cok_r12w (by simp) ?_
  ((conv => whnf); repeat' ((first | refine odw ?_ | refine ify ?_ | refine ifn ?_ | refine i6 ?_ | refine ati ?_ | refine mst ?_ | refine rmd ?_ | refine ibo (fun _ => ?_) (fun _ => ?_)) <;> conv => whnf))
  refine loop_lo (ι := Nat) (fun i => i ≤ L.length) (fun i => [(6, .d (.int .i64 i)), (5, .own 300), (4, .own 4), (2, .own 2), (1, .d (dIs L))]) (fun i => [(2, .cells 27 [.d (dIs G.labels), .d (dEs G.edges)]), (4, .cells 47 [.d .nils, .d .nils]), (300, .slice 3 1 (((L.take i).map (labelV G)).map dI))]) (fun i => L.length - i) 0 (fun _ => rfl) (Nat.zero_le _) (.own 5 300 3 1 rfl rfl (.refl _ _)) ⟨rfl, rfl, rfl, rfl, rfl, trivial⟩ ⟨rfl, rfl, rfl, trivial⟩ ?_
  intro i hi
  refine sxCode_sound c1_ok (G := G_r12w) (pl := pl_r12w) _ _ _ _ (by kernel_rfl) ?_
  by_cases hil : i < L.length
  · have hx := List.getElem?_eq_getElem hil
    have hxv := hv _ (List.getElem_mem hil)
    generalize L[i] = x at hx hxv
    obtain ⟨v, rfl⟩ := Int.eq_ofNat_of_zero_le hxv.1
    have hvl : v < G.labels.length := by omega
    have hxd : (L.map dI)[i]? = some (.int .i64 v) := by rw [List.getElem?_map, hx]; rfl
    have hlv : (G.labels.map dI)[v]? = some (.int .i64 (labelV G v)) := by
      rw [List.getElem?_map, List.getElem?_eq_getElem hvl]
      unfold labelV
      rw [if_pos (by omega), Int.toNat_natCast, List.getElem?_eq_getElem hvl]; rfl
    have hll : (((L.take i).map (labelV G)).map dI).length = i := by simp only [List.length_map, List.length_take]; omega
    (conv => whnf)
    (repeat' ((first | refine ord_ok (by (conv => whnf); (repeat' ((first | refine at_da hxd rfl ?_ | refine at_da hlv rfl ?_ | refine ify ?_ | refine ifn ?_ | refine i6 ?_ | refine ati ?_ | refine mst ?_ | refine rmd ?_ | refine ibo (fun _ => ?_) (fun _ => ?_)) <;> conv => whnf)); (all_goals (repeat' (first | exact trivial | exact rfl | refine And.intro ?_ ?_)))) ?_ | refine at_da hxd rfl ?_ | refine at_da hlv rfl ?_ | refine ify ?_ | refine ifn ?_ | refine i6 ?_ | refine ati ?_ | refine mst ?_ | refine rmd ?_ | refine ibo (fun _ => ?_) (fun _ => ?_)) <;> conv => whnf))
    refine ⟨i + 1, _, _, by omega, .refl _ _, ⟨rfl, rfl, rfl, rfl, rfl, trivial⟩, ⟨rfl, rfl, ?_, trivial⟩, by omega⟩
    refine slice_is ?_
    rw [List.take_add_one, hx]; simp [dI]
  · have e : L.take i = L := List.take_of_length_le (by omega)
    rw [e]
    have hmd := rmade_pure (L.map (labelV G)) ⟨G.labels, G.edges⟩ L hL hGe
    ((conv => whnf); repeat' ((first | refine odw ?_ | refine ify ?_ | refine ifn ?_ | refine i6 ?_ | refine ati ?_ | refine mst ?_ | refine rmd ?_ | refine ibo (fun _ => ?_) (fun _ => ?_)) <;> conv => whnf))
    refine call_frz 300 rfl ?_
    refine call_eq rfl hmd ?_
    ((conv => whnf); repeat' ((first | refine odw ?_ | refine ify ?_ | refine ifn ?_ | refine i6 ?_ | refine ati ?_ | refine mst ?_ | refine rmd ?_ | refine ibo (fun _ => ?_) (fun _ => ?_)) <;> conv => whnf))
    exact rfl
def pl_l8of : List (Nat × Plan) := [(1, .leaf [0, 1, 0, 1, 2, 0, 3] [0, 2, 1, 3, 4, 5, 6] [0, 1, 0, 4, 12, 31, 63])]
def G_l8of : List FuncId := [50]
theorem cok_l8of : codeOk Tryz.prog G_l8of pl_l8of (Tryz.f19.body.getD .skip) = true := by kernel_rfl
theorem run_l8of (vs : Array Value) (w : World) : (callFunc 19 vs).run C1.P w = .ok (.enter 19 vs) w := by kernel_rfl
theorem lawpt_pure (p : Pt) (hm : p.edges.length ≤ 4294967296) : Pure C1 19 [dPt p] (fun y => y = dPt p) := by
  have h := lawof_pure p.edges hm
  refine pure_of c1_ok (pl := pl_l8of) (G := G_l8of) Tryz.func19 rfl Tryz.ntmps19 run_l8of cok_l8of (by simp) ?_
  (conv => whnf)
  (repeat' ((first | refine ord_ok (by (conv => whnf); (repeat' ((first | refine call_eq rfl h ?_ | refine ify ?_ | refine ifn ?_ | refine i6 ?_ | refine ati ?_ | refine mst ?_ | refine rmd ?_ | refine ibo (fun _ => ?_) (fun _ => ?_)) <;> conv => whnf)); (all_goals (repeat' (first | exact trivial | exact rfl | refine And.intro ?_ ?_)))) ?_ | refine call_eq rfl h ?_ | refine ify ?_ | refine ifn ?_ | refine i6 ?_ | refine ati ?_ | refine mst ?_ | refine rmd ?_ | refine ibo (fun _ => ?_) (fun _ => ?_)) <;> conv => whnf))
  exact rfl
end Go.Proofs.YteigfapjiekdnaaGreatDoor
