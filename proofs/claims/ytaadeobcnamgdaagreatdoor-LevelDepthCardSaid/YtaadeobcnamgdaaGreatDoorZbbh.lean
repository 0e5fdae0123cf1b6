/- Merged: Lvq Pgo Pgq Lve Lmd Ldp Ldx Ldy. -/
import Derived.Test.YtaadeobcnamgdaaGreatDoorZbbg
import Derived.Test.YtaadeobcnamgdaaGreatDoorZbbf
import Derived.Test.YtaadeobcnamgdaaGreatDoorZbbb
import Derived.Test.YtaadeobcnamgdaaGreatDoorZbbc
import Derived.Test.YtaadeobcnamgdaaGreatDoorZbbd
import Derived.Test.YtaadeobcnamgdaaGreatDoorZbac
import Derived.Test.YtaadeobcnamgdaaGreatDoorZbaz
import Derived.Test.YtaadeobcnamgdaaGreatDoorZbaf
import Derived.Test.YtaadeobcnamgdaaGreatDoorArg
import Derived.Test.YtaadeobcnamgdaaGreatDoorCards
import Derived.Test.YtaadeobcnamgdaaGreatDoorTie
import Derived.WalkKit
import Derived.ProofKit
import Derived.OpenShut
import Derived.ChangeMaps5
import Derived.ChangeSame
import Derived.SizedLaws
import Derived.Deep.DeepHandedRow
import Derived.Lib.LaidTab
import Derived.LaidHandle
import Derived.Carry
import Derived.Stop.LaidErr
import Derived.Test.YtaadeobcnamgdaaGreatDoorZbav
section
/- level: the walk: Keeps, Grow, All. -/
namespace Go.Proofs.YtaadeobcnamgdaaGreatDoor
open Go.Sx Go.RowKit Go.Reg Go.Gr

set_option maxRecDepth 100000
theorem allP_no {ps : List Int → Bool} {X : List Int} {n : Nat} (hn : n < X.length) (h : ps (X.take (n + 1)) = false) : allP ps X = false := by
  unfold allP
  rw [List.all_eq_false]
  exact ⟨n, List.mem_range.2 hn, by rw [h]; decide⟩
theorem allP_yes {ps : List Int → Bool} {X : List Int} (h : ∀ n, n < X.length → ps (X.take (n + 1)) = true) : allP ps X = true := by
  unfold allP
  rw [List.all_eq_true]
  exact fun n hn => h n (List.mem_range.1 hn)
def listsS : ByteArray := ⟨#[108, 105, 115, 116, 115]⟩
/-- all levels, or too many -/
def allY (w : Gr) (ps : List Int → Bool) (D : Nat) (most : Int) : Da := if (sumP w ps D : Int) ≤ max most 0 then .tuple [.list 1 ((rowsP w ps D).map dLs), .nili] else .tuple [.nils, dF 13 0 listsS]
/-- what a list grows to, or why not -/
def growY (w : Gr) (ps : List Int → Bool) (d : Int) (X : List Int) : Da := if keptL w ps X = false then .tuple [.nils, dF 2 0 listS] else if d ≤ (X.length : Int) then .tuple [.nils, .nili] else .tuple [dLs (growP w ps X), .nili]
section
variable {G : Gr} {e : Bool} {d : Int} {l : List Opp}
def pl_lkq : List (Nat × Plan) := [(7, .leaf [1, 0, 0, 0, 0, 2, 0] [1, 2, 3, 4, 0, 5, 6] [0, 0, 0, 4, 14, 31, 63])]
def G_lkq : List FuncId := [49, 56, 57]
theorem cok_lkq : codeOk Tryz.prog G_lkq pl_lkq (Tryz.f21.body.getD .skip) = true := by kernel_rfl
theorem run_lkq (vs : Array Value) (w : World) : (callFunc 21 vs).run C1.P w = .ok (.enter 21 vs) w := by kernel_rfl
theorem lkeeps_pure (h : JobOk G e d l) (X : List Int) (hx : X.length ≤ 900) : Pure C1 21 [dJ G e d l, dIs X] (fun z => z = .bool (keptL (wordsG G e) (psJ G e l) X)) := by
  have hXl : (X.map dI).length = X.length := List.length_map _
  have hw := words_pure h
  have hok := words_ok h.ok (by have := h.n; omega) h.m e
  have hc := canon_pure (wordsG G e) hok X
  refine pure_of c1_ok (pl := pl_lkq) (G := G_lkq) Tryz.func21 rfl Tryz.ntmps21 run_lkq cok_lkq (by simp) ?_
  unfold keptL
  by_cases h0 : X = []
  · subst h0
    rw [decide_eq_false (by simp)]
    (conv => whnf)
    (repeat' ((first | refine ord_ok (by (conv => whnf); (repeat' ((first | refine call_eq rfl hw ?_ | refine ify ?_ | refine ifn ?_ | refine i6 ?_ | refine ati ?_ | refine mst ?_ | refine rmd ?_ | refine ibo (fun _ => ?_) (fun _ => ?_)) <;> conv => whnf)); (all_goals (repeat' (first | exact trivial | exact rfl | refine And.intro ?_ ?_)))) ?_ | refine call_eq rfl hw ?_ | refine ify ?_ | refine ifn ?_ | refine i6 ?_ | refine ati ?_ | refine mst ?_ | refine rmd ?_ | refine ibo (fun _ => ?_) (fun _ => ?_)) <;> conv => whnf))
    exact rfl
  have h0l : X.length ≠ 0 := fun e => h0 (List.eq_nil_of_length_eq_zero e)
  rw [decide_eq_true h0]
  cases hcv : canonV (wordsG G e) X with
  | false =>
    rw [hcv] at hc
    (conv => whnf)
    (repeat' ((first | refine ord_ok (by (conv => whnf); (repeat' ((first | refine call_eq rfl hw ?_ | refine call_eq rfl hc ?_ | refine ify ?_ | refine ifn ?_ | refine i6 ?_ | refine ati ?_ | refine mst ?_ | refine rmd ?_ | refine ibo (fun _ => ?_) (fun _ => ?_)) <;> conv => whnf)); (all_goals (repeat' (first | exact trivial | exact rfl | refine And.intro ?_ ?_)))) ?_ | refine call_eq rfl hw ?_ | refine call_eq rfl hc ?_ | refine ify ?_ | refine ifn ?_ | refine i6 ?_ | refine ati ?_ | refine mst ?_ | refine rmd ?_ | refine ibo (fun _ => ?_) (fun _ => ?_)) <;> conv => whnf))
    exact rfl
  | true =>
    rw [hcv] at hc
    (conv => whnf)
    (repeat' ((first | refine ord_ok (by (conv => whnf); (repeat' ((first | refine call_eq rfl hw ?_ | refine call_eq rfl hc ?_ | refine ify ?_ | refine ifn ?_ | refine i6 ?_ | refine ati ?_ | refine mst ?_ | refine rmd ?_ | refine ibo (fun _ => ?_) (fun _ => ?_)) <;> conv => whnf)); (all_goals (repeat' (first | exact trivial | exact rfl | refine And.intro ?_ ?_)))) ?_ | refine call_eq rfl hw ?_ | refine call_eq rfl hc ?_ | refine ify ?_ | refine ifn ?_ | refine i6 ?_ | refine ati ?_ | refine mst ?_ | refine rmd ?_ | refine ibo (fun _ => ?_) (fun _ => ?_)) <;> conv => whnf))
    refine loop_lo (ι := Nat) (fun n => n ≤ X.length ∧ ∀ k, k < n → psJ G e l (X.take (k + 1)) = true) (fun n => [(28, .d (.int .i64 n)), (27, .d (.int .i64 (X.map dI).length)), (2, .own 2), (1, .d (dIs X))]) (fun _ => [(2, .cells 30 [.d (dG G), .d (.bool e), .d (.int .i64 d), .d (dOs l)])]) (fun n => X.length - n) 0 (fun _ => rfl) ⟨Nat.zero_le _, fun k hk => absurd hk (Nat.not_lt_zero _)⟩ (.refl _ _) ⟨rfl, rfl, rfl, rfl, trivial⟩ ⟨rfl, trivial⟩ ?_
    rintro n ⟨hn, hps⟩
    refine sxCode_sound c1_ok (G := G_lkq) (pl := pl_lkq) _ _ _ _ (by kernel_rfl) ?_
    by_cases hlt : n < X.length
    · have hp := passes_pure h (X.take (n + 1)) (fun e => by have hc := congrArg List.length e; rw [List.length_take, List.length_nil] at hc; omega) (by rw [List.length_take]; omega)
      have hi1 : (n : Int) + 1 = ((n + 1 : Nat) : Int) := by omega
      have hi2 : n + 1 ≤ (X.map dI).length := by omega
      rw [dIs_take] at hp
      cases hpv : psJ G e l (X.take (n + 1)) with
      | false =>
        rw [hpv] at hp
        rw [allP_no hlt hpv]
        (conv => whnf)
        (repeat' ((first | refine ord_ok (by (conv => whnf); (repeat' ((first | refine hi_is hi1 hi2 ?_ | refine call_eq rfl hp ?_ | refine ify ?_ | refine ifn ?_ | refine i6 ?_ | refine ati ?_ | refine mst ?_ | refine rmd ?_ | refine ibo (fun _ => ?_) (fun _ => ?_)) <;> conv => whnf)); (all_goals (repeat' (first | exact trivial | exact rfl | refine And.intro ?_ ?_)))) ?_ | refine hi_is hi1 hi2 ?_ | refine call_eq rfl hp ?_ | refine ify ?_ | refine ifn ?_ | refine i6 ?_ | refine ati ?_ | refine mst ?_ | refine rmd ?_ | refine ibo (fun _ => ?_) (fun _ => ?_)) <;> conv => whnf))
        exact rfl
      | true =>
        rw [hpv] at hp
        (conv => whnf)
        (repeat' ((first | refine ord_ok (by (conv => whnf); (repeat' ((first | refine hi_is hi1 hi2 ?_ | refine call_eq rfl hp ?_ | refine ify ?_ | refine ifn ?_ | refine i6 ?_ | refine ati ?_ | refine mst ?_ | refine rmd ?_ | refine ibo (fun _ => ?_) (fun _ => ?_)) <;> conv => whnf)); (all_goals (repeat' (first | exact trivial | exact rfl | refine And.intro ?_ ?_)))) ?_ | refine hi_is hi1 hi2 ?_ | refine call_eq rfl hp ?_ | refine ify ?_ | refine ifn ?_ | refine i6 ?_ | refine ati ?_ | refine mst ?_ | refine rmd ?_ | refine ibo (fun _ => ?_) (fun _ => ?_)) <;> conv => whnf))
        refine ⟨n + 1, _, _, ⟨hlt, fun k hk => ?_⟩, .refl _ _, ⟨rfl, rfl, rfl, rfl, trivial⟩, ⟨rfl, trivial⟩, by omega⟩
        rcases Nat.lt_or_ge k n with g | g
        · exact hps k g
        · rw [show k = n by omega]; exact hpv
    · rw [allP_yes fun k hk => hps k (by omega)]
      ((conv => whnf); repeat' ((first | refine odw ?_ | refine ify ?_ | refine ifn ?_ | refine i6 ?_ | refine ati ?_ | refine mst ?_ | refine rmd ?_ | refine ibo (fun _ => ?_) (fun _ => ?_)) <;> conv => whnf))
      exact rfl
def pl_lgq : List (Nat × Plan) := []
def G_lgq : List FuncId := [49, 21, 51]
theorem cok_lgq : codeOk Tryz.prog G_lgq pl_lgq (Tryz.f26.body.getD .skip) = true := by kernel_rfl
theorem run_lgq (vs : Array Value) (w : World) : (callFunc 26 vs).run C1.P w = .ok (.enter 26 vs) w := by kernel_rfl
theorem lGrow_pure (h : JobOk G e d l) (X : List Int) (hx : X.length ≤ 900) : Pure C1 26 [dJ G e d l, dIs X] (fun z => z = growY (wordsG G e) (psJ G e l) d X) := by
  have hXl : (X.map dI).length = X.length := List.length_map _
  have hw := words_pure h
  have hk := lkeeps_pure h X hx
  have hg := lgrow_pure h X hx
  refine pure_of c1_ok (pl := pl_lgq) (G := G_lgq) Tryz.func26 rfl Tryz.ntmps26 run_lgq cok_lgq (by simp) ?_
  unfold growY
  cases hkv : keptL (wordsG G e) (psJ G e l) X with
  | false =>
    rw [hkv] at hk
    rw [if_pos rfl]
    (conv => whnf)
    (repeat' ((first | refine ord_ok (by (conv => whnf); (repeat' ((first | refine call_eq rfl hw ?_ | refine call_eq rfl hk ?_ | refine call_eq rfl (fnew_pure 2 0 listS) ?_ | refine ify ?_ | refine ifn ?_ | refine i6 ?_ | refine ati ?_ | refine mst ?_ | refine rmd ?_ | refine ibo (fun _ => ?_) (fun _ => ?_)) <;> conv => whnf)); (all_goals (repeat' (first | exact trivial | exact rfl | refine And.intro ?_ ?_)))) ?_ | refine call_eq rfl hw ?_ | refine call_eq rfl hk ?_ | refine call_eq rfl (fnew_pure 2 0 listS) ?_ | refine ify ?_ | refine ifn ?_ | refine i6 ?_ | refine ati ?_ | refine mst ?_ | refine rmd ?_ | refine ibo (fun _ => ?_) (fun _ => ?_)) <;> conv => whnf))
    exact rfl
  | true =>
    rw [hkv] at hk
    rw [if_neg (by decide)]
    by_cases hd : d ≤ (X.length : Int)
    · rw [if_pos hd]
      (conv => whnf)
      (repeat' ((first | refine ord_ok (by (conv => whnf); (repeat' ((first | refine call_eq rfl hw ?_ | refine call_eq rfl hk ?_ | refine ify ?_ | refine ifn ?_ | refine i6 ?_ | refine ati ?_ | refine mst ?_ | refine rmd ?_ | refine ibo (fun _ => ?_) (fun _ => ?_)) <;> conv => whnf)); (all_goals (repeat' (first | exact trivial | exact rfl | refine And.intro ?_ ?_)))) ?_ | refine call_eq rfl hw ?_ | refine call_eq rfl hk ?_ | refine ify ?_ | refine ifn ?_ | refine i6 ?_ | refine ati ?_ | refine mst ?_ | refine rmd ?_ | refine ibo (fun _ => ?_) (fun _ => ?_)) <;> conv => whnf))
      exact rfl
    · rw [if_neg hd]
      (conv => whnf)
      (repeat' ((first | refine ord_ok (by (conv => whnf); (repeat' ((first | refine call_eq rfl hw ?_ | refine call_eq rfl hk ?_ | refine call_eq rfl hg ?_ | refine ify ?_ | refine ifn ?_ | refine i6 ?_ | refine ati ?_ | refine mst ?_ | refine rmd ?_ | refine ibo (fun _ => ?_) (fun _ => ?_)) <;> conv => whnf)); (all_goals (repeat' (first | exact trivial | exact rfl | refine And.intro ?_ ?_)))) ?_ | refine call_eq rfl hw ?_ | refine call_eq rfl hk ?_ | refine call_eq rfl hg ?_ | refine ify ?_ | refine ifn ?_ | refine i6 ?_ | refine ati ?_ | refine mst ?_ | refine rmd ?_ | refine ibo (fun _ => ?_) (fun _ => ?_)) <;> conv => whnf))
      exact rfl
theorem sumP_stop {w : Gr} {ps : List Int → Bool} {k : Nat} (h : rowP w ps k = []) : ∀ {D : Nat}, k ≤ D → sumP w ps D = sumP w ps k := by
  intro D hD
  induction D with
  | zero => rw [show k = 0 by omega]
  | succ D ih =>
    rcases Nat.lt_or_ge D k with hk | hk
    · rw [show D + 1 = k by omega]
    · rw [sumP_step, ih hk, rowP_empty h D hk]; rfl
def pl_lal : List (Nat × Plan) := []
def G_lal : List FuncId := [28, 49, 51]
theorem cok_lal : codeOk Tryz.prog G_lal pl_lal (Tryz.f14.body.getD .skip) = true := by kernel_rfl
theorem run_lal (vs : Array Value) (w : World) : (callFunc 14 vs).run C1.P w = .ok (.enter 14 vs) w := by kernel_rfl
theorem all_pure (h : JobOk G e d l) (most : Int) : Pure C1 14 [dJ G e d l, .int .i64 most] (fun z => z = allY (wordsG G e) (psJ G e l) d.toNat most) := by
  have hs := start_pure h
  have hw := words_pure h
  have hgr : ∀ X : List Int, X.length ≤ 900 → Pure C1 51 [dJ G e d l, dG (wordsG G e), dIs X] (fun z => z = dLs (growP (wordsG G e) (psJ G e l) X)) := fun X hX => lgrow_pure h X hX
  have hok := words_ok h.ok (by have := h.n; omega) h.m e
  have hsm := small_len h
  have hd := h.d
  clear h
  obtain ⟨D, rfl⟩ := Int.eq_ofNat_of_zero_le (show 0 ≤ d by omega)
  rw [Int.toNat_natCast]
  generalize wordsG G e = w at hs hw hgr hok hsm ⊢
  generalize psJ G e l = ps at hs hgr ⊢
  have hrl : ∀ k, (rowP w ps k).length ≤ 256 := fun k => Nat.le_trans (rowP_len hok ps k) (Nat.le_trans (Nat.pow_le_pow_right (by decide) hsm) (by decide))
  have hfew : ∀ m, m ≤ 8 → sumP w ps m ≤ 2048 := fun m hm => sumP_few hok ps hsm hm
  refine pure_of c1_ok (pl := pl_lal) (G := G_lal) Tryz.func14 rfl Tryz.ntmps14 run_lal cok_lal (by simp) ?_
  (conv => whnf)
  (repeat' ((first | refine ord_ok (by (conv => whnf); (repeat' ((first | refine call_eq rfl hs ?_ | refine call_eq rfl hw ?_ | refine ify ?_ | refine ifn ?_ | refine i6 ?_ | refine ati ?_ | refine mst ?_ | refine rmd ?_ | refine ibo (fun _ => ?_) (fun _ => ?_)) <;> conv => whnf)); (all_goals (repeat' (first | exact trivial | exact rfl | refine And.intro ?_ ?_)))) ?_ | refine call_eq rfl hs ?_ | refine call_eq rfl hw ?_ | refine ify ?_ | refine ifn ?_ | refine i6 ?_ | refine ati ?_ | refine mst ?_ | refine rmd ?_ | refine ibo (fun _ => ?_) (fun _ => ?_)) <;> conv => whnf))
  refine loop_lo (ι := Nat) (fun k => k < D ∧ (∀ j, j < k → rowP w ps j ≠ []) ∧ (sumP w ps k : Int) ≤ max most 0) (fun k => [(11, .d (.int .i64 (sumP w ps k : Nat))), (10, .own 300), (8, .d (dG w)), (6, .d (dLs (rowP w ps k))), (2, .own 2), (1, .d (.int .i64 most))]) (fun k => [(2, .cells 30 [.d (dG G), .d (.bool e), .d (.int .i64 (D : Int)), .d (dOs l)]), (300, .slice 45 1 (((List.range k).map (rowP w ps)).map dLs))]) (fun k => D - k) 0 (fun _ => rfl) ⟨by omega, fun j hj => absurd hj (Nat.not_lt_zero _), by rw [show sumP w ps 0 = 0 from rfl]; omega⟩
    (.own 10 300 45 1 rfl rfl (.refl _ _)) ⟨rfl, rfl, rfl, rfl, rfl, rfl, trivial⟩ ⟨rfl, rfl, trivial⟩ ?_
  rintro k ⟨hkD, hne, hsum⟩
  refine sxCode_sound c1_ok (G := G_lal) (pl := pl_lal) _ _ _ _ (by kernel_rfl) ?_
  have hRl := hrl k
  have hdl : ((rowP w ps k).map dIs).length = (rowP w ps k).length := List.length_map _
  have hk8 := hfew (k + 1) (by omega)
  have hst := sumP_step w ps k
  have hOl : (((List.range k).map (rowP w ps)).map dLs).length = k := by rw [List.length_map, List.length_map, List.length_range]
  have hrg : (List.range k).length = k := List.length_range
  have hO1 : ((List.range (k + 1)).map (rowP w ps)).map dLs = ((List.range k).map (rowP w ps)).map dLs ++ [dLs (rowP w ps k)] := by rw [List.range_succ, List.map_append, List.map_append]; rfl
  have hO2 : (((List.range k).map (rowP w ps)).map dLs ++ [dLs (rowP w ps k)]).length = k + 1 := by rw [List.length_append, hOl]; rfl
  by_cases hR : rowP w ps k = []
  · have eS := sumP_stop hR (Nat.le_of_lt hkD)
    have eR : rowsP w ps D = (List.range k).map (rowP w ps) := by rw [rowsP_stop hR (Nat.le_of_lt hkD), rowsP_full hne]
    unfold allY
    rw [eS, if_pos hsum, eR]
    rw [hR]
    have hd0 : (List.map dIs ([] : List (List Int))).length = 0 := rfl
    ((conv => whnf); repeat' ((first | refine odw ?_ | refine ify ?_ | refine ifn ?_ | refine i6 ?_ | refine ati ?_ | refine mst ?_ | refine rmd ?_ | refine ibo (fun _ => ?_) (fun _ => ?_)) <;> conv => whnf))
    exact rfl
  have hR0 : (rowP w ps k).length ≠ 0 := fun e => hR (List.eq_nil_of_length_eq_zero e)
  by_cases hm : (sumP w ps (k + 1) : Int) ≤ max most 0
  · by_cases hl : k + 1 = D
    · have eR : rowsP w ps D = (List.range (k + 1)).map (rowP w ps) := by
        rw [← hl]
        exact rowsP_full fun j hj => by
          rcases Nat.lt_or_ge j k with g | g
          · exact hne j g
          · rw [show j = k by omega]; exact hR
      unfold allY
      rw [if_pos (by rw [← hl]; exact hm), eR, hO1]
      ((conv => whnf); repeat' ((first | refine odw ?_ | refine ify ?_ | refine ifn ?_ | refine i6 ?_ | refine ati ?_ | refine mst ?_ | refine rmd ?_ | refine ibo (fun _ => ?_) (fun _ => ?_)) <;> conv => whnf))
      exact rfl
    · have hst2 : (sumP w ps k : Int) + (((rowP w ps k).map dIs).length : Int) = (sumP w ps (k + 1) : Nat) := by rw [hdl, hst]; omega
      have hpre : ∀ n, (((rowP w ps k).take n).flatMap (growP w ps)).length ≤ 256 := fun n => by
        have := hrl (k + 1)
        unfold rowP at this
        rw [← List.take_append_drop n (rowP w ps k), List.flatMap_append, List.length_append] at this
        omega
      have hxl : ∀ x ∈ rowP w ps k, x.length ≤ 900 := fun x hx => by
        have := ((mem_rowP hok k).1 hx).2.1
        omega
      ((conv => whnf); repeat' ((first | refine odw ?_ | refine ify ?_ | refine ifn ?_ | refine i6 ?_ | refine ati ?_ | refine mst ?_ | refine rmd ?_ | refine ibo (fun _ => ?_) (fun _ => ?_)) <;> conv => whnf))
      refine loop_lo (ι := Nat) (fun i => i ≤ (rowP w ps k).length) (fun i => [(51, .d (.int .i64 i)), (50, .d (.int .i64 ((rowP w ps k).map dIs).length)), (49, .d (dLs (rowP w ps k))), (12, .own 301), (11, .d (.int .i64 ((sumP w ps k : Int) + (((rowP w ps k).map dIs).length : Int)))), (10, .own 300), (8, .d (dG w)), (2, .own 2), (1, .d (.int .i64 most))]) (fun i => [(2, .cells 30 [.d (dG G), .d (.bool e), .d (.int .i64 (D : Int)), .d (dOs l)]), (300, .slice 45 1 (((List.range k).map (rowP w ps)).map dLs ++ [dLs (rowP w ps k)])), (301, .slice 22 1 ((((rowP w ps k).take i).flatMap (growP w ps)).map dIs))]) (fun i => (rowP w ps k).length - i) 0 (fun _ => rfl) (Nat.zero_le _)
        (.own 12 301 22 1 rfl rfl (.refl _ _)) ⟨rfl, rfl, rfl, rfl, rfl, rfl, rfl, rfl, rfl, trivial⟩ ⟨rfl, rfl, rfl, trivial⟩ ?_
      intro i hi
      refine sxCode_sound c1_ok (G := G_lal) (pl := pl_lal) _ _ _ _ (by kernel_rfl) ?_
      by_cases hil : i < (rowP w ps k).length
      · have hx := List.getElem?_eq_getElem hil
        have hg := hgr _ (hxl _ (List.getElem_mem hil))
        generalize (rowP w ps k)[i] = x at hx hg
        have hxd : ((rowP w ps k).map dIs)[i]? = some (dIs x) := by rw [List.getElem?_map, hx]; rfl
        have hstp : ((rowP w ps k).take (i + 1)).flatMap (growP w ps) = ((rowP w ps k).take i).flatMap (growP w ps) ++ growP w ps x := by rw [List.take_add_one, hx, Option.toList_some, List.flatMap_append]; simp
        have h1 := hpre i
        have h2 := hpre (i + 1)
        rw [hstp, List.length_append] at h2
        have hfin : (((rowP w ps k).take i).flatMap (growP w ps)).map dIs ++ (growP w ps x).map dIs = (((rowP w ps k).take (i + 1)).flatMap (growP w ps)).map dIs := by rw [hstp, List.map_append]
        have hml : ((((rowP w ps k).take i).flatMap (growP w ps)).map dIs).length + ((growP w ps x).map dIs).length ≤ 4294967296 := by rw [List.length_map, List.length_map]; omega
        (conv => whnf)
        (repeat' ((first | refine ord_ok (by (conv => whnf); (repeat' ((first | refine at_da hxd rfl ?_ | refine call_eq rfl hg ?_ | refine most_ok hml ?_ | refine ify ?_ | refine ifn ?_ | refine i6 ?_ | refine ati ?_ | refine mst ?_ | refine rmd ?_ | refine ibo (fun _ => ?_) (fun _ => ?_)) <;> conv => whnf)); (all_goals (repeat' (first | exact trivial | exact rfl | refine And.intro ?_ ?_)))) ?_ | refine at_da hxd rfl ?_ | refine call_eq rfl hg ?_ | refine most_ok hml ?_ | refine ify ?_ | refine ifn ?_ | refine i6 ?_ | refine ati ?_ | refine mst ?_ | refine rmd ?_ | refine ibo (fun _ => ?_) (fun _ => ?_)) <;> conv => whnf))
        exact ⟨i + 1, _, _, hil, .refl _ _, ⟨rfl, rfl, rfl, rfl, rfl, rfl, rfl, rfl, rfl, trivial⟩, ⟨rfl, rfl, slice_is hfin, trivial⟩, by omega⟩
      · have hii : (rowP w ps k).take i = rowP w ps k := List.take_of_length_le (by omega)
        rw [hii]
        ((conv => whnf); repeat' ((first | refine odw ?_ | refine ify ?_ | refine ifn ?_ | refine i6 ?_ | refine ati ?_ | refine mst ?_ | refine rmd ?_ | refine ibo (fun _ => ?_) (fun _ => ?_)) <;> conv => whnf))
        refine ⟨k + 1, _, _, ⟨by omega, fun j hj => ?_, hm⟩, .frz 301 rfl (.refl _ _), ⟨congrArg (fun z => Dat.d (.int .i64 z)) hst2, rfl, rfl, rfl, rfl, rfl, trivial⟩, ⟨rfl, slice_is hO1.symm, trivial⟩, by omega⟩
        rcases Nat.lt_or_ge j k with g | g
        · exact hne j g
        · rw [show j = k by omega]; exact hR
  · have hbig := sumP_mono w ps (show k + 1 ≤ D from hkD)
    unfold allY
    rw [if_neg (by omega)]
    (conv => whnf)
    (repeat' ((first | refine ord_ok (by (conv => whnf); (repeat' ((first | refine call_eq rfl (fnew_pure 13 0 listsS) ?_ | refine ify ?_ | refine ifn ?_ | refine i6 ?_ | refine ati ?_ | refine mst ?_ | refine rmd ?_ | refine ibo (fun _ => ?_) (fun _ => ?_)) <;> conv => whnf)); (all_goals (repeat' (first | exact trivial | exact rfl | refine And.intro ?_ ?_)))) ?_ | refine call_eq rfl (fnew_pure 13 0 listsS) ?_ | refine ify ?_ | refine ifn ?_ | refine i6 ?_ | refine ati ?_ | refine mst ?_ | refine rmd ?_ | refine ibo (fun _ => ?_) (fun _ => ?_)) <;> conv => whnf))
    exact rfl
end
end Go.Proofs.YtaadeobcnamgdaaGreatDoor
end

section
/- ref17: takes, Fault, Right. -/
namespace Go.Proofs.YtaadeobcnamgdaaGreatDoor
open Go.Sx Go.RowKit Go.Reg Go.Gr

set_option maxRecDepth 100000
def pl_rgt : List (Nat × Plan) := []
def G_rgt : List FuncId := []
theorem cok_rgt : codeOk Tryz.prog G_rgt pl_rgt (Tryz.f149.body.getD .skip) = true := by kernel_rfl
theorem run_rgt (vs : Array Value) (w : World) : (callFunc 149 vs).run C1.P w = .ok (.enter 149 vs) w := by kernel_rfl
theorem rtakes_pure (k : Int) : Pure C1 149 [.int .i64 k] (fun y => y = .bool (takesO k)) := by
  refine pure_of c1_ok (pl := pl_rgt) (G := G_rgt) Tryz.func149 rfl Tryz.ntmps149 run_rgt cok_rgt (by simp) ?_
  by_cases h1 : k = 1
  · subst h1; ((conv => whnf); repeat' ((first | refine odw ?_ | refine ify ?_ | refine ifn ?_ | refine i6 ?_ | refine ati ?_ | refine mst ?_ | refine rmd ?_ | refine ibo (fun _ => ?_) (fun _ => ?_)) <;> conv => whnf)); exact rfl
  by_cases h6 : k = 6
  · subst h6; ((conv => whnf); repeat' ((first | refine odw ?_ | refine ify ?_ | refine ifn ?_ | refine i6 ?_ | refine ati ?_ | refine mst ?_ | refine rmd ?_ | refine ibo (fun _ => ?_) (fun _ => ?_)) <;> conv => whnf)); exact rfl
  by_cases h8 : k = 8
  · subst h8; ((conv => whnf); repeat' ((first | refine odw ?_ | refine ify ?_ | refine ifn ?_ | refine i6 ?_ | refine ati ?_ | refine mst ?_ | refine rmd ?_ | refine ibo (fun _ => ?_) (fun _ => ?_)) <;> conv => whnf)); exact rfl
  have e : takesO k = true := by unfold takesO; simp [h1, h6, h8]
  rw [e]
  ((conv => whnf); repeat' ((first | refine odw ?_ | refine ify ?_ | refine ifn ?_ | refine i6 ?_ | refine ati ?_ | refine mst ?_ | refine rmd ?_ | refine ibo (fun _ => ?_) (fun _ => ?_)) <;> conv => whnf))
  all_goals exact congrArg Da.bool (decide_eq_true h8)
def pl_rgf : List (Nat × Plan) := []
def G_rgf : List FuncId := [149]
theorem cok_rgf : codeOk Tryz.prog G_rgf pl_rgf (Tryz.f102.body.getD .skip) = true := by kernel_rfl
theorem run_rgf (vs : Array Value) (w : World) : (callFunc 102 vs).run C1.P w = .ok (.enter 102 vs) w := by kernel_rfl
theorem rfault_pure (o : Opp) : Pure C1 102 [dO o] (fun y => y = .int .i64 (codeO o)) := by
  have ht := rtakes_pure o.kind
  refine pure_of c1_ok (pl := pl_rgf) (G := G_rgf) Tryz.func102 rfl Tryz.ntmps102 run_rgf cok_rgf (by simp) ?_
  by_cases hk : o.kind < 1 ∨ 8 < o.kind
  · have e : codeO o = 1 := by unfold codeO; rw [if_pos hk]
    rw [e]
    (conv => whnf)
    (repeat' ((first | refine ord_ok (by (conv => whnf); (repeat' ((first | refine call_eq rfl ht ?_ | refine ify ?_ | refine ifn ?_ | refine i6 ?_ | refine ati ?_ | refine mst ?_ | refine rmd ?_ | refine ibo (fun _ => ?_) (fun _ => ?_)) <;> conv => whnf)); (all_goals (repeat' (first | exact trivial | exact rfl | refine And.intro ?_ ?_)))) ?_ | refine call_eq rfl ht ?_ | refine ify ?_ | refine ifn ?_ | refine i6 ?_ | refine ati ?_ | refine mst ?_ | refine rmd ?_ | refine ibo (fun _ => ?_) (fun _ => ?_)) <;> conv => whnf))
    all_goals first | exact rfl | (exfalso; omega)
  · by_cases hr : o.n < 0 ∨ 255 < o.n ∨ 0 < o.n ∧ takesO o.kind = false
    · have e : codeO o = 3 := by unfold codeO; rw [if_neg hk, if_pos hr]
      rw [e]
      cases htk : takesO o.kind <;> rw [htk] at ht hr <;>
      · (conv => whnf)
        (repeat' ((first | refine ord_ok (by (conv => whnf); (repeat' ((first | refine call_eq rfl ht ?_ | refine ify ?_ | refine ifn ?_ | refine i6 ?_ | refine ati ?_ | refine mst ?_ | refine rmd ?_ | refine ibo (fun _ => ?_) (fun _ => ?_)) <;> conv => whnf)); (all_goals (repeat' (first | exact trivial | exact rfl | refine And.intro ?_ ?_)))) ?_ | refine call_eq rfl ht ?_ | refine ify ?_ | refine ifn ?_ | refine i6 ?_ | refine ati ?_ | refine mst ?_ | refine rmd ?_ | refine ibo (fun _ => ?_) (fun _ => ?_)) <;> conv => whnf))
        all_goals first | exact rfl | (exfalso; simp at hr; omega) | (exfalso; omega)
    · have e : codeO o = 0 := by unfold codeO; rw [if_neg hk, if_neg hr]
      rw [e]
      cases htk : takesO o.kind <;> rw [htk] at ht hr <;>
      · (conv => whnf)
        (repeat' ((first | refine ord_ok (by (conv => whnf); (repeat' ((first | refine call_eq rfl ht ?_ | refine ify ?_ | refine ifn ?_ | refine i6 ?_ | refine ati ?_ | refine mst ?_ | refine rmd ?_ | refine ibo (fun _ => ?_) (fun _ => ?_)) <;> conv => whnf)); (all_goals (repeat' (first | exact trivial | exact rfl | refine And.intro ?_ ?_)))) ?_ | refine call_eq rfl ht ?_ | refine ify ?_ | refine ifn ?_ | refine i6 ?_ | refine ati ?_ | refine mst ?_ | refine rmd ?_ | refine ibo (fun _ => ?_) (fun _ => ?_)) <;> conv => whnf))
        all_goals first | exact rfl | (exfalso; simp at hr; omega) | (exfalso; omega)
def pl_rgr : List (Nat × Plan) := []
def G_rgr : List FuncId := [102]
theorem cok_rgr : codeOk Tryz.prog G_rgr pl_rgr (Tryz.f47.body.getD .skip) = true := by kernel_rfl
theorem run_rgr (vs : Array Value) (w : World) : (callFunc 47 vs).run C1.P w = .ok (.enter 47 vs) w := by kernel_rfl
theorem rright17_pure (l : List Opp) (hm : l.length ≤ 9223372036854775807) : Pure C1 47 [dOs l] (fun y => (y = .tuple [.int .i64 0, .int .i64 0] ∧ l.length ≤ 16 ∧ ∀ o ∈ l, codeO o = 0) ∨ ∃ c i : Int, c ≠ 0 ∧ y = .tuple [.int .i64 c, .int .i64 i]) := by
  have hl : (l.map dO).length = l.length := List.length_map _
  refine pure_of c1_ok (pl := pl_rgr) (G := G_rgr) Tryz.func47 rfl Tryz.ntmps47 run_rgr cok_rgr (by simp) ?_
  by_cases h16 : 16 < l.length
  · ((conv => whnf); repeat' ((first | refine odw ?_ | refine ify ?_ | refine ifn ?_ | refine i6 ?_ | refine ati ?_ | refine mst ?_ | refine rmd ?_ | refine ibo (fun _ => ?_) (fun _ => ?_)) <;> conv => whnf))
    exact .inr ⟨6, 0, by decide, rfl⟩
  ((conv => whnf); repeat' ((first | refine odw ?_ | refine ify ?_ | refine ifn ?_ | refine i6 ?_ | refine ati ?_ | refine mst ?_ | refine rmd ?_ | refine ibo (fun _ => ?_) (fun _ => ?_)) <;> conv => whnf))
  refine loop_lo (ι := Nat) (fun i => i ≤ l.length ∧ ∀ y ∈ l.take i, codeO y = 0) (fun i => [(4, .d (.int .i64 i)), (0, .d (dOs l))]) (fun _ => []) (fun i => l.length - i) 0 (fun _ => rfl) ⟨Nat.zero_le _, by simp⟩ (.refl _ _) ⟨rfl, rfl, trivial⟩ trivial ?_
  rintro i ⟨hi, hne⟩
  refine sxCode_sound c1_ok (G := G_rgr) (pl := pl_rgr) _ _ _ _ (by kernel_rfl) ?_
  by_cases hlt : i < l.length
  · have hx := List.getElem?_eq_getElem hlt
    generalize l[i] = y at hx
    have hxd : (l.map dO)[i]? = some (.agg [.int .i64 y.kind, .int .i64 y.n]) := by rw [List.getElem?_map, hx]; rfl
    have hf := rfault_pure y
    by_cases hy : codeO y = 0
    · rw [hy] at hf
      (conv => whnf)
      (repeat' ((first | refine ord_ok (by (conv => whnf); (repeat' ((first | refine at_da hxd rfl ?_ | refine call_eq rfl hf ?_ | refine ify ?_ | refine ifn ?_ | refine i6 ?_ | refine ati ?_ | refine mst ?_ | refine rmd ?_ | refine ibo (fun _ => ?_) (fun _ => ?_)) <;> conv => whnf)); (all_goals (repeat' (first | exact trivial | exact rfl | refine And.intro ?_ ?_)))) ?_ | refine at_da hxd rfl ?_ | refine call_eq rfl hf ?_ | refine ify ?_ | refine ifn ?_ | refine i6 ?_ | refine ati ?_ | refine mst ?_ | refine rmd ?_ | refine ibo (fun _ => ?_) (fun _ => ?_)) <;> conv => whnf))
      refine ⟨i + 1, _, _, ⟨hlt, ?_⟩, .refl _ _, ⟨rfl, rfl, trivial⟩, trivial, by omega⟩
      intro z hz
      rw [List.take_add_one, hx] at hz
      rcases List.mem_append.1 hz with hz | hz
      · exact hne z hz
      · simp at hz; subst hz; exact hy
    · (conv => whnf)
      (repeat' ((first | refine ord_ok (by (conv => whnf); (repeat' ((first | refine at_da hxd rfl ?_ | refine call_eq rfl hf ?_ | refine ify ?_ | refine ifn ?_ | refine i6 ?_ | refine ati ?_ | refine mst ?_ | refine rmd ?_ | refine ibo (fun _ => ?_) (fun _ => ?_)) <;> conv => whnf)); (all_goals (repeat' (first | exact trivial | exact rfl | refine And.intro ?_ ?_)))) ?_ | refine at_da hxd rfl ?_ | refine call_eq rfl hf ?_ | refine ify ?_ | refine ifn ?_ | refine i6 ?_ | refine ati ?_ | refine mst ?_ | refine rmd ?_ | refine ibo (fun _ => ?_) (fun _ => ?_)) <;> conv => whnf))
      exact .inr ⟨_, _, hy, rfl⟩
  · have hii : l.take i = l := List.take_of_length_le (by omega)
    rw [hii] at hne
    ((conv => whnf); repeat' ((first | refine odw ?_ | refine ify ?_ | refine ifn ?_ | refine i6 ?_ | refine ati ?_ | refine mst ?_ | refine rmd ?_ | refine ibo (fun _ => ?_) (fun _ => ?_)) <;> conv => whnf))
    exact .inl ⟨rfl, by omega, hne⟩
end Go.Proofs.YtaadeobcnamgdaaGreatDoor
end

section
/- law17.Of. -/
namespace Go.Proofs.YtaadeobcnamgdaaGreatDoor
open Go.Sx Go.RowKit Go.Reg Go.Gr

set_option maxRecDepth 100000
def pl_l7of : List (Nat × Plan) := []
def G_l7of : List FuncId := []
theorem cok_l7of : codeOk Tryz.prog G_l7of pl_l7of (Tryz.f11.body.getD .skip) = true := by kernel_rfl
theorem run_l7of (vs : Array Value) (w : World) : (callFunc 11 vs).run C1.P w = .ok (.enter 11 vs) w := by kernel_rfl
theorem law17of_pure (l : List Opp) (hm : l.length ≤ 8796093022207) : Pure C1 11 [dOs l] (fun y => y = dOs l) := by
  have hel : (l.map dO).length = l.length := List.length_map _
  refine pure_of c1_ok (pl := pl_l7of) (G := G_l7of) Tryz.func11 rfl Tryz.ntmps11 run_l7of cok_l7of (by simp) ?_
  ((conv => whnf); repeat' ((first | refine odw ?_ | refine ify ?_ | refine ifn ?_ | refine i6 ?_ | refine ati ?_ | refine mst ?_ | refine rmd ?_ | refine ibo (fun _ => ?_) (fun _ => ?_)) <;> conv => whnf))
  refine loop_lo (ι := Nat) (fun i => i ≤ l.length) (fun i => [(4, .d (.int .i64 i)), (3, .own 300), (0, .d (dOs l))]) (fun i => [(300, .slice 108 2 ((l.take i).map dO))]) (fun i => l.length - i) 0 (fun _ => rfl) (Nat.zero_le _)
    (.own 3 300 108 2 rfl rfl (.refl _ _)) ⟨rfl, rfl, rfl, trivial⟩ ⟨rfl, trivial⟩ ?_
  intro i hi
  refine sxCode_sound c1_ok (G := G_l7of) (pl := pl_l7of) _ _ _ _ (by kernel_rfl) ?_
  by_cases hlt : i < l.length
  · have hx := List.getElem?_eq_getElem hlt
    generalize l[i] = e at hx
    have hxd : (l.map dO)[i]? = some (dO e) := by rw [List.getElem?_map, hx]; rfl
    have htl : ((l.take i).map dO).length = i := by rw [List.length_map, List.length_take]; omega
    have hfin : (l.take i).map dO ++ [dO e] = (l.take (i + 1)).map dO := by rw [List.take_add_one, hx, Option.toList_some, List.map_append]; rfl
    generalize (l.take i).map dO = Z at htl hfin ⊢
    (conv => whnf)
    (repeat' ((first | refine ord_ok (by (conv => whnf); (repeat' ((first | refine at_da hxd rfl ?_ | refine most16 (by simp only [List.length_cons, List.length_nil]; omega) ?_ | refine ify ?_ | refine ifn ?_ | refine i6 ?_ | refine ati ?_ | refine mst ?_ | refine rmd ?_ | refine ibo (fun _ => ?_) (fun _ => ?_)) <;> conv => whnf)); (all_goals (repeat' (first | exact trivial | exact rfl | refine And.intro ?_ ?_)))) ?_ | refine at_da hxd rfl ?_ | refine most16 (by simp only [List.length_cons, List.length_nil]; omega) ?_ | refine ify ?_ | refine ifn ?_ | refine i6 ?_ | refine ati ?_ | refine mst ?_ | refine rmd ?_ | refine ibo (fun _ => ?_) (fun _ => ?_)) <;> conv => whnf))
    exact ⟨i + 1, _, _, hlt, .refl _ _, ⟨rfl, rfl, rfl, trivial⟩, ⟨slice_is hfin, trivial⟩, by omega⟩
  · have hii : l.take i = l := List.take_of_length_le (by omega)
    rw [hii]
    ((conv => whnf); repeat' ((first | refine odw ?_ | refine ify ?_ | refine ifn ?_ | refine i6 ?_ | refine ati ?_ | refine mst ?_ | refine rmd ?_ | refine ibo (fun _ => ?_) (fun _ => ?_)) <;> conv => whnf))
    exact rfl
end Go.Proofs.YtaadeobcnamgdaaGreatDoor
end

section
/- level: the chapter's example: a triangle's levels. -/
namespace Go.Proofs.YtaadeobcnamgdaaGreatDoor
open Go.Gr
def triG : Gr := ⟨[0, 0, 0], [⟨0, 1⟩, ⟨0, 2⟩, ⟨1, 2⟩]⟩
theorem tri_canon : canon triG.edges = triG.edges := (canon_eq (by decide) (by decide) (by decide)).symm
theorem tri_err : newErr triG.labels triG.edges = none := by decide
theorem tri_ok : triG.Ok := by
  have := canon_ok tri_err
  rwa [tri_canon] at this
theorem grow_comp {G : Gr} (hG : G.Ok) (l : List Int) : growV G l = if canonV G l = true then (rnextV G l G.labels.length).filter (fitsV G l) else [] := by
  unfold growV
  rw [rnext_eq hG]
theorem tri_ps {x : List Int} (h : linkedV triG x = true) (h8 : x.length ≤ 8) : psJ triG false [] x = true := by
  unfold psJ wordsG
  rw [if_neg (by decide), h, if_neg (by decide), decide_eq_true h8]
  unfold keepsG
  rw [jvert_err tri_ok h8 h]; rfl
theorem tri_row0 : rowP triG (psJ triG false []) 0 = [[0], [1], [2]] := by
  show ([[0], [1], [2]] : List (List Int)).filter _ = _
  refine List.filter_eq_self.2 fun x hx => tri_ps ?_ ?_
  · revert x; decide
  · revert x; decide
theorem tri_grow {l : List Int} {r : List (List Int)} (h : ((if canonV triG l = true then (rnextV triG l 3).filter (fitsV triG l) else []).map fun v => l ++ [v]) = r) (hr : ∀ x ∈ r, linkedV triG x = true ∧ x.length ≤ 8) : growP triG (psJ triG false []) l = r := by
  unfold growP growL
  rw [grow_comp tri_ok]
  rw [show triG.labels.length = 3 from rfl, h]
  exact List.filter_eq_self.2 fun x hx => tri_ps (hr x hx).1 (hr x hx).2
theorem tri_row1 : rowP triG (psJ triG false []) 1 = [[0, 1], [0, 2], [1, 2]] := by
  show (rowP triG (psJ triG false []) 0).flatMap _ = _
  rw [tri_row0, List.flatMap_cons, List.flatMap_cons, List.flatMap_cons, List.flatMap_nil]
  rw [tri_grow (l := [0]) (r := [[0, 1], [0, 2]]) (by decide) (by decide), tri_grow (l := [1]) (r := [[1, 2]]) (by decide) (by decide), tri_grow (l := [2]) (r := []) (by decide) (by decide)]; rfl
theorem tri_row2 : rowP triG (psJ triG false []) 2 = [[0, 1, 2]] := by
  show (rowP triG (psJ triG false []) 1).flatMap _ = _
  rw [tri_row1, List.flatMap_cons, List.flatMap_cons, List.flatMap_cons, List.flatMap_nil]
  rw [tri_grow (l := [0, 1]) (r := [[0, 1, 2]]) (by decide) (by decide), tri_grow (l := [0, 2]) (r := []) (by decide) (by decide), tri_grow (l := [1, 2]) (r := []) (by decide) (by decide)]; rfl
theorem tri_rows : rowsP triG (psJ triG false []) 3 = [[[0], [1], [2]], [[0, 1], [0, 2], [1, 2]], [[0, 1, 2]]] := by
  rw [rowsP_full]
  · show [rowP _ _ 0, rowP _ _ 1, rowP _ _ 2] = _
    rw [tri_row0, tri_row1, tri_row2]
  · intro k hk
    have : k = 0 ∨ k = 1 ∨ k = 2 := by omega
    rcases this with rfl | rfl | rfl
    · rw [tri_row0]; simp
    · rw [tri_row1]; simp
    · rw [tri_row2]; simp
end Go.Proofs.YtaadeobcnamgdaaGreatDoor
end

section
/- fretworklaw18: Made, same, alive; jobs that can't be. -/
namespace Go.Proofs.YtaadeobcnamgdaaGreatDoor
open Go.Sx Go.RowKit Go.Reg Go.Gr

set_option maxRecDepth 100000
theorem ops_len {O : List Nat} {w : World} {l : List Opp} {v : Value} (h : Rep O w (dOs l) v) : l.length ≤ 9223372036854775807 := by
  have := rep_len h
  rw [List.length_map] at this
  unfold maxLen at this
  omega
theorem Pure.len5 {f : FuncId} {a b c d : Da} {l : List Opp} {xs : List Da} {Q : Da → Prop} (h : l.length ≤ 9223372036854775807 → Sx.Pure C1 f (a :: b :: c :: d :: dOs l :: xs) Q) : Sx.Pure C1 f (a :: b :: c :: d :: dOs l :: xs) Q :=
  Sx.Pure.assume (fun O w us hr => by
    obtain ⟨_, _, rfl, _, h1⟩ := reps_inv hr
    obtain ⟨_, _, rfl, _, h2⟩ := reps_inv h1
    obtain ⟨_, _, rfl, _, h3⟩ := reps_inv h2
    obtain ⟨_, _, rfl, _, h4⟩ := reps_inv h3
    obtain ⟨_, _, rfl, h5, _⟩ := reps_inv h4
    exact ops_len h5) h
def dJr (G : Gr) (e : Bool) (d : Int) (l : List Opp) : Da := .agg [dM G.labels G.edges, .bool e, .int .i64 d, dOs l]
def madeN : Da := .tuple [.agg [.nilp, .bool false, .int .i64 0, .nils], .agg [.agg [.nils, .nils], .bool false, .int .i64 0, .nils], .bool false]
def pl_l8m : List (Nat × Plan) := [(5, .split 6 11 (.leaf [0, 0, 0, 0, 2, 0, 1, 0, 0, 0, 0, 3, 3, 0] [0, 1, 2, 3, 7, 8, 9, 6, 10, 4, 5, 11, 12, 13] [0, 0, 0, 0, 8, 31, 0, 0, 0, 0, 960, 127, 4095, 8191]) (.leaf [0, 0, 0, 0, 2, 0, 1, 0, 0, 0, 0, 3, 3, 0] [0, 1, 2, 3, 7, 8, 9, 4, 5, 11, 6, 10, 12, 13] [0, 0, 0, 0, 8, 31, 2111, 0, 0, 0, 3071, 63, 4095, 8191]))]
def G_l8m : List FuncId := [46, 47, 11]
theorem cok_l8m : codeOk Tryz.prog G_l8m pl_l8m (Tryz.f10.body.getD .skip) = true := by kernel_rfl
theorem run_l8m (vs : Array Value) (w : World) : (callFunc 10 vs).run C1.P w = .ok (.enter 10 vs) w := by kernel_rfl
theorem lmade_pure (labels : List Int) (edges : List Edg) (e : Bool) (d : Int) (p : List Opp) : Pure C1 10 [dIs labels, dEs edges, .bool e, .int .i64 d, dOs p] (fun y => y = madeN ∨ ∃ G, y = .tuple [dJ G e d p, dJr G e d p, .bool true] ∧ JobOk G e d p) := by
  refine Pure.len5 fun hpl => ?_
  have hll : (labels.map dI).length = labels.length := List.length_map _
  have hel : (edges.map dE).length = edges.length := List.length_map _
  have hmd := made_pure labels edges
  have hrr := rright17_pure p hpl
  refine pure_of c1_ok (pl := pl_l8m) (G := G_l8m) Tryz.func10 rfl Tryz.ntmps10 run_l8m cok_l8m (by simp) ?_
  (conv => whnf)
  rcases made_case labels edges with hy | ⟨G, hy, hG, _, hm, hGe, _, hlen⟩
  · rw [hy] at hmd
    (repeat' ((first | refine ord_ok (by (conv => whnf); (repeat' ((first | refine call_eq rfl hmd ?_ | refine ify ?_ | refine ifn ?_ | refine i6 ?_ | refine ati ?_ | refine mst ?_ | refine rmd ?_ | refine ibo (fun _ => ?_) (fun _ => ?_)) <;> conv => whnf)); (all_goals (repeat' (first | exact trivial | exact rfl | refine And.intro ?_ ?_)))) ?_ | refine call_eq rfl hmd ?_ | refine ify ?_ | refine ifn ?_ | refine i6 ?_ | refine ati ?_ | refine mst ?_ | refine rmd ?_ | refine ibo (fun _ => ?_) (fun _ => ?_)) <;> conv => whnf))
    refine call_pure rfl hrr ?_
    rintro y (⟨rfl, hl16, hlok⟩ | ⟨c, i, hc, rfl⟩)
    · ((conv => whnf); repeat' ((first | refine odw ?_ | refine ify ?_ | refine ifn ?_ | refine i6 ?_ | refine ati ?_ | refine mst ?_ | refine rmd ?_ | refine ibo (fun _ => ?_) (fun _ => ?_)) <;> conv => whnf))
      exact .inl rfl
    · ((conv => whnf); repeat' ((first | refine odw ?_ | refine ify ?_ | refine ifn ?_ | refine i6 ?_ | refine ati ?_ | refine mst ?_ | refine rmd ?_ | refine ibo (fun _ => ?_) (fun _ => ?_)) <;> conv => whnf))
      exact .inl rfl
  · rw [hy] at hmd
    have hGl : G.labels = labels := by rw [hGe]
    (repeat' ((first | refine ord_ok (by (conv => whnf); (repeat' ((first | refine call_eq rfl hmd ?_ | refine ify ?_ | refine ifn ?_ | refine i6 ?_ | refine ati ?_ | refine mst ?_ | refine rmd ?_ | refine ibo (fun _ => ?_) (fun _ => ?_)) <;> conv => whnf)); (all_goals (repeat' (first | exact trivial | exact rfl | refine And.intro ?_ ?_)))) ?_ | refine call_eq rfl hmd ?_ | refine ify ?_ | refine ifn ?_ | refine i6 ?_ | refine ati ?_ | refine mst ?_ | refine rmd ?_ | refine ibo (fun _ => ?_) (fun _ => ?_)) <;> conv => whnf))
    refine call_pure rfl hrr ?_
    rintro y (⟨rfl, hl16, hlok⟩ | ⟨c, i, hc, rfl⟩)
    · have hof := law17of_pure p (by omega)
      by_cases h7 : 7 < labels.length
      · ((conv => whnf); repeat' ((first | refine odw ?_ | refine ify ?_ | refine ifn ?_ | refine i6 ?_ | refine ati ?_ | refine mst ?_ | refine rmd ?_ | refine ibo (fun _ => ?_) (fun _ => ?_)) <;> conv => whnf))
        exact .inl rfl
      by_cases hd : 1 ≤ d ∧ d ≤ 8
      · cases e with
        | true =>
          by_cases h8 : 8 < edges.length
          · ((conv => whnf); repeat' ((first | refine odw ?_ | refine ify ?_ | refine ifn ?_ | refine i6 ?_ | refine ati ?_ | refine mst ?_ | refine rmd ?_ | refine ibo (fun _ => ?_) (fun _ => ?_)) <;> conv => whnf))
            exact .inl rfl
          · (conv => whnf)
            (repeat' ((first | refine ord_ok (by (conv => whnf); (repeat' ((first | refine call_eq rfl hof ?_ | refine ify ?_ | refine ifn ?_ | refine i6 ?_ | refine ati ?_ | refine mst ?_ | refine rmd ?_ | refine ibo (fun _ => ?_) (fun _ => ?_)) <;> conv => whnf)); (all_goals (repeat' (first | exact trivial | exact rfl | refine And.intro ?_ ?_)))) ?_ | refine call_eq rfl hof ?_ | refine ify ?_ | refine ifn ?_ | refine i6 ?_ | refine ati ?_ | refine mst ?_ | refine rmd ?_ | refine ibo (fun _ => ?_) (fun _ => ?_)) <;> conv => whnf))
            exact .inr ⟨G, rfl, hG, by rw [hGl]; omega, hm, fun _ => by omega, hd, hl16, hlok⟩
        | false =>
          by_cases h8 : 8 < edges.length
          · (conv => whnf)
            (repeat' ((first | refine ord_ok (by (conv => whnf); (repeat' ((first | refine call_eq rfl hof ?_ | refine ify ?_ | refine ifn ?_ | refine i6 ?_ | refine ati ?_ | refine mst ?_ | refine rmd ?_ | refine ibo (fun _ => ?_) (fun _ => ?_)) <;> conv => whnf)); (all_goals (repeat' (first | exact trivial | exact rfl | refine And.intro ?_ ?_)))) ?_ | refine call_eq rfl hof ?_ | refine ify ?_ | refine ifn ?_ | refine i6 ?_ | refine ati ?_ | refine mst ?_ | refine rmd ?_ | refine ibo (fun _ => ?_) (fun _ => ?_)) <;> conv => whnf))
            exact .inr ⟨G, rfl, hG, by rw [hGl]; omega, hm, fun h => (by cases h), hd, hl16, hlok⟩
          · (conv => whnf)
            (repeat' ((first | refine ord_ok (by (conv => whnf); (repeat' ((first | refine call_eq rfl hof ?_ | refine ify ?_ | refine ifn ?_ | refine i6 ?_ | refine ati ?_ | refine mst ?_ | refine rmd ?_ | refine ibo (fun _ => ?_) (fun _ => ?_)) <;> conv => whnf)); (all_goals (repeat' (first | exact trivial | exact rfl | refine And.intro ?_ ?_)))) ?_ | refine call_eq rfl hof ?_ | refine ify ?_ | refine ifn ?_ | refine i6 ?_ | refine ati ?_ | refine mst ?_ | refine rmd ?_ | refine ibo (fun _ => ?_) (fun _ => ?_)) <;> conv => whnf))
            exact .inr ⟨G, rfl, hG, by rw [hGl]; omega, hm, fun h => (by cases h), hd, hl16, hlok⟩
      · by_cases h8 : 8 < edges.length <;> cases e <;> ((conv => whnf); repeat' ((first | refine odw ?_ | refine ify ?_ | refine ifn ?_ | refine i6 ?_ | refine ati ?_ | refine mst ?_ | refine rmd ?_ | refine ibo (fun _ => ?_) (fun _ => ?_)) <;> conv => whnf))
        all_goals exact .inl rfl
    · by_cases h7 : 7 < labels.length <;> by_cases h8 : 8 < edges.length <;> cases e <;> ((conv => whnf); repeat' ((first | refine odw ?_ | refine ify ?_ | refine ifn ?_ | refine i6 ?_ | refine ati ?_ | refine mst ?_ | refine rmd ?_ | refine ibo (fun _ => ?_) (fun _ => ?_)) <;> conv => whnf))
      all_goals exact .inl rfl
def pl_l8s : List (Nat × Plan) := [(6, .leaf [0, 0, 0, 1, 0, 0, 0, 1, 2, 0] [0, 1, 2, 4, 5, 6, 3, 7, 8, 9] [0, 0, 3, 7, 0, 0, 48, 112, 255, 511])]
def G_l8s : List FuncId := [16]
theorem cok_l8s : codeOk Tryz.prog G_l8s pl_l8s (Tryz.f18.body.getD .skip) = true := by kernel_rfl
theorem run_l8s (vs : Array Value) (w : World) : (callFunc 18 vs).run C1.P w = .ok (.enter 18 vs) w := by kernel_rfl
theorem lsame_pure (P : List (List Int)) (hm : P.length ≤ 9000000000) : Pure C1 18 [dLs P, dLs P] (fun y => y = .bool true) := by
  have hl : (P.map dIs).length = P.length := List.length_map _
  refine pure_of c1_ok (pl := pl_l8s) (G := G_l8s) Tryz.func18 rfl Tryz.ntmps18 run_l8s cok_l8s (by simp) ?_
  ((conv => whnf); repeat' ((first | refine odw ?_ | refine ify ?_ | refine ifn ?_ | refine i6 ?_ | refine ati ?_ | refine mst ?_ | refine rmd ?_ | refine ibo (fun _ => ?_) (fun _ => ?_)) <;> conv => whnf))
  refine loop_lo (ι := Nat) (fun i => i ≤ P.length) (fun i => [(5, .d (.int .i64 i)), (1, .d (dLs P)), (0, .d (dLs P))]) (fun _ => []) (fun i => P.length - i) 0 (fun _ => rfl) (Nat.zero_le _) (.refl _ _) ⟨rfl, rfl, rfl, trivial⟩ trivial ?_
  intro i hi
  refine sxCode_sound c1_ok (G := G_l8s) (pl := pl_l8s) _ _ _ _ (by kernel_rfl) ?_
  by_cases hlt : i < P.length
  · have hx := List.getElem?_eq_getElem hlt
    generalize P[i] = x at hx
    have hxd : (P.map dIs)[i]? = some (dIs x) := by rw [List.getElem?_map, hx]; rfl
    have hs := same_pure x x
    rw [decide_eq_true rfl] at hs
    (conv => whnf)
    (repeat' ((first | refine ord_ok (by (conv => whnf); (repeat' ((first | refine at_da hxd rfl ?_ | refine call_eq rfl hs ?_ | refine ify ?_ | refine ifn ?_ | refine i6 ?_ | refine ati ?_ | refine mst ?_ | refine rmd ?_ | refine ibo (fun _ => ?_) (fun _ => ?_)) <;> conv => whnf)); (all_goals (repeat' (first | exact trivial | exact rfl | refine And.intro ?_ ?_)))) ?_ | refine at_da hxd rfl ?_ | refine call_eq rfl hs ?_ | refine ify ?_ | refine ifn ?_ | refine i6 ?_ | refine ati ?_ | refine mst ?_ | refine rmd ?_ | refine ibo (fun _ => ?_) (fun _ => ?_)) <;> conv => whnf))
    exact ⟨i + 1, _, _, hlt, .refl _ _, ⟨rfl, rfl, rfl, trivial⟩, trivial, by omega⟩
  · ((conv => whnf); repeat' ((first | refine odw ?_ | refine ify ?_ | refine ifn ?_ | refine i6 ?_ | refine ati ?_ | refine mst ?_ | refine rmd ?_ | refine ibo (fun _ => ?_) (fun _ => ?_)) <;> conv => whnf))
    exact rfl
theorem lwords_nil (b : Bool) (d : Int) (ds : List Da) : Pure C1 49 [.agg [.nilp, .bool b, .int .i64 d, .list 2 ds]] (fun y => y = .tuple [.nilp, dF 10 0 graphS]) := by
  refine pure_of c1_ok (pl := pl_lww) (G := G_lww) Tryz.func49 rfl Tryz.ntmps49 run_lww cok_lww (by simp) ?_
  (conv => whnf)
  (repeat' ((first | refine ord_ok (by (conv => whnf); (repeat' ((first | refine call_eq rfl (fnew_pure 10 0 graphS) ?_ | refine ify ?_ | refine ifn ?_ | refine i6 ?_ | refine ati ?_ | refine mst ?_ | refine rmd ?_ | refine ibo (fun _ => ?_) (fun _ => ?_)) <;> conv => whnf)); (all_goals (repeat' (first | exact trivial | exact rfl | refine And.intro ?_ ?_)))) ?_ | refine call_eq rfl (fnew_pure 10 0 graphS) ?_ | refine ify ?_ | refine ifn ?_ | refine i6 ?_ | refine ati ?_ | refine mst ?_ | refine rmd ?_ | refine ibo (fun _ => ?_) (fun _ => ?_)) <;> conv => whnf))
  exact rfl
/-- what Right tells of a job whose words are wrong -/
theorem lright_of {G : Da} {b : Bool} {d : Int} {ds : List Da} {x : Da} (hG : G = .nilp ∨ ∃ g, G = dG g) (h : Pure C1 49 [.agg [G, .bool b, .int .i64 d, .list 2 ds]] (fun y => y = .tuple [.nilp, x])) (hx : (∃ c a s, x = dF c a s) ∨ ∃ z c a s, x = dS z (dF c a s)) : Pure C1 13 [.agg [G, .bool b, .int .i64 d, .list 2 ds]] (fun y => y = x) := by
  rcases hG with rfl | ⟨g, rfl⟩ <;> rcases hx with ⟨c, a, s, rfl⟩ | ⟨z, c, a, s, rfl⟩
  all_goals
    refine pure_of c1_ok (pl := pl_lwr) (G := G_lwr) Tryz.func13 rfl Tryz.ntmps13 run_lwr cok_lwr (by simp) ?_
    (conv => whnf)
    (repeat' ((first | refine ord_ok (by (conv => whnf); (repeat' ((first | refine call_eq rfl h ?_ | refine ify ?_ | refine ifn ?_ | refine i6 ?_ | refine ati ?_ | refine mst ?_ | refine rmd ?_ | refine ibo (fun _ => ?_) (fun _ => ?_)) <;> conv => whnf)); (all_goals (repeat' (first | exact trivial | exact rfl | refine And.intro ?_ ?_)))) ?_ | refine call_eq rfl h ?_ | refine ify ?_ | refine ifn ?_ | refine i6 ?_ | refine ati ?_ | refine mst ?_ | refine rmd ?_ | refine ibo (fun _ => ?_) (fun _ => ?_)) <;> conv => whnf))
    exact rfl
theorem tri_made : madeY [0, 0, 0] [⟨0, 2⟩, ⟨1, 2⟩, ⟨0, 1⟩] = .tuple [dG triG, dM triG.labels triG.edges, .bool true] := by
  have h1 : newErr [0, 0, 0] [⟨0, 2⟩, ⟨1, 2⟩, ⟨0, 1⟩] = none := by decide
  have h2 : canon [⟨0, 2⟩, ⟨1, 2⟩, ⟨0, 1⟩] = triG.edges := (canon_eq (by decide) (by decide) (by decide)).symm
  unfold madeY madeG
  rw [if_pos ⟨by decide, by decide⟩, h1]
  simp only [h2]
  rfl
theorem tri_job : JobOk triG false 3 [] := ⟨tri_ok, by decide, by decide, fun h => (by cases h), by omega, by decide, fun o ho => by cases ho⟩
def pl_lal8 : List (Nat × Plan) := []
def G_lal8 : List FuncId := [46]
theorem cok_lal8 : codeOk Tryz.prog G_lal8 pl_lal8 (Tryz.f9.body.getD .skip) = true := by kernel_rfl
theorem run_lal8 (vs : Array Value) (w : World) : (callFunc 9 vs).run C1.P w = .ok (.enter 9 vs) w := by kernel_rfl
theorem alive18_pure : Pure C1 9 [] (fun y => y = .bool true) := by
  have hm := made_pure [0, 0, 0] [⟨0, 2⟩, ⟨1, 2⟩, ⟨0, 1⟩]
  rw [tri_made] at hm
  have ha : Pure C1 14 [.agg [dG triG, .bool false, .int .i64 3, .nils], .int .i64 100] (fun z => z = .tuple [.list 1 ([[[0], [1], [2]], [[0, 1], [0, 2], [1, 2]], [[0, 1, 2]]].map dLs), .nili]) := by
    refine Sx.Pure.lax (.cons (.agg (.cons (.refl _) (.cons (.refl _) (.cons (.refl _) (.cons (.nils 2) .nil))))) (.cons (.refl _) .nil)) ?_
    have := all_pure tri_job 100
    rw [show wordsG triG false = triG from rfl] at this
    have hs : sumP triG (psJ triG false []) 3 = 7 := by
      unfold sumP
      show ((rowP _ _ 0).length + ((rowP _ _ 1).length + ((rowP _ _ 2).length + 0))) = 7
      rw [tri_row0, tri_row1, tri_row2]; rfl
    rw [show allY triG (psJ triG false []) (3 : Int).toNat 100 = .tuple [.list 1 ([[[0], [1], [2]], [[0, 1], [0, 2], [1, 2]], [[0, 1, 2]]].map dLs), .nili] by
      show allY triG (psJ triG false []) 3 100 = _
      unfold allY
      rw [hs, if_pos (by decide), tri_rows]] at this
    exact this
  have hr : Pure C1 13 [.agg [.nilp, .bool false, .int .i64 0, .nils]] (fun y => y = dF 10 0 graphS) :=
    Sx.Pure.lax (.cons (.agg (.cons (.refl _) (.cons (.refl _) (.cons (.refl _) (.cons (.nils 2) .nil))))) .nil) (lright_of (.inl rfl) (lwords_nil false 0 []) (.inl ⟨_, _, _, rfl⟩))
  have hc := code_pure 10 0 graphS
  have g0 : (List.map dLs [[[0], [1], [2]], [[0, 1], [0, 2], [1, 2]], [[0, 1, 2]]])[0]? = some (dLs [[0], [1], [2]]) := rfl
  have g1 : (List.map dLs [[[0], [1], [2]], [[0, 1], [0, 2], [1, 2]], [[0, 1, 2]]])[1]? = some (dLs [[0, 1], [0, 2], [1, 2]]) := rfl
  have g2 : (List.map dLs [[[0], [1], [2]], [[0, 1], [0, 2], [1, 2]], [[0, 1, 2]]])[2]? = some (dLs [[0, 1, 2]]) := rfl
  have l0 : (List.map dLs [[[0], [1], [2]], [[0, 1], [0, 2], [1, 2]], [[0, 1, 2]]]).length = 3 := rfl
  have l1 : (List.map dIs [[0], [1], [2]]).length = 3 := rfl
  have l2 : (List.map dIs [[0, 1], [0, 2], [1, 2]]).length = 3 := rfl
  have l3 : (List.map dIs [[0, 1, 2]]).length = 1 := rfl
  refine pure_of c1_ok (pl := pl_lal8) (G := G_lal8) Tryz.func9 rfl Tryz.ntmps9 run_lal8 cok_lal8 (by simp) ?_
  (conv => whnf)
  (repeat' ((first | refine ord_ok (by (conv => whnf); (repeat' ((first | refine call_eq (xs := [dIs [0, 0, 0], dEs [⟨0, 2⟩, ⟨1, 2⟩, ⟨0, 1⟩]]) rfl hm ?_ | refine call_frz 7 rfl ?_ | refine call_frz 11 rfl ?_ | refine call_eq rfl ha ?_ | refine call_eq rfl hr ?_ | refine call_eq rfl hc ?_ | refine at_da g0 rfl ?_ | refine at_da g1 rfl ?_ | refine at_da g2 rfl ?_ | refine ify ?_ | refine ifn ?_ | refine i6 ?_ | refine ati ?_ | refine mst ?_ | refine rmd ?_ | refine ibo (fun _ => ?_) (fun _ => ?_)) <;> conv => whnf)); (all_goals (repeat' (first | exact trivial | exact rfl | refine And.intro ?_ ?_)))) ?_ | refine call_eq (xs := [dIs [0, 0, 0], dEs [⟨0, 2⟩, ⟨1, 2⟩, ⟨0, 1⟩]]) rfl hm ?_ | refine call_frz 7 rfl ?_ | refine call_frz 11 rfl ?_ | refine call_eq rfl ha ?_ | refine call_eq rfl hr ?_ | refine call_eq rfl hc ?_ | refine at_da g0 rfl ?_ | refine at_da g1 rfl ?_ | refine at_da g2 rfl ?_ | refine ify ?_ | refine ifn ?_ | refine i6 ?_ | refine ati ?_ | refine mst ?_ | refine rmd ?_ | refine ibo (fun _ => ?_) (fun _ => ?_)) <;> conv => whnf))
  exact rfl
end Go.Proofs.YtaadeobcnamgdaaGreatDoor
end

section
/- fretworklaw18.LevelDepth returns true. -/
namespace Go.Proofs.YtaadeobcnamgdaaGreatDoor
open Go.Sx Go.RowKit Go.Reg Go.Gr

set_option maxRecDepth 100000
theorem kept_row {w : Gr} (hok : w.Ok) {ps : List Int → Bool} {n : Nat} {x : List Int} (h : x ∈ rowP w ps n) : keptL w ps x = true := (kept_iff hok).2 ⟨n, h⟩
def pl_ldp : List (Nat × Plan) := [(20, .leaf [1, 0, 0, 0, 1, 0, 0, 1, 2, 0, 0, 0, 0, 0] [1, 2, 3, 5, 0, 4, 6, 7, 8, 9, 10, 11, 12, 13] [0, 0, 0, 6, 14, 0, 62, 126, 255, 511, 1023, 1023, 2047, 8191]),
  (21, .leaf [0, 0, 0, 1, 0, 0, 0, 1, 0, 0, 1, 2, 0, 0] [0, 1, 2, 4, 5, 6, 8, 3, 7, 9, 10, 11, 12, 13] [0, 1, 3, 7, 7, 7, 55, 119, 7, 503, 1015, 2047, 4095, 8191])]
def G_ldp : List FuncId := [26, 21]
theorem cok_ldp : codeOk Tryz.prog G_ldp pl_ldp (Tryz.f5.body.getD .skip) = true := by kernel_rfl
theorem run_ldp (vs : Array Value) (w : World) : (callFunc 5 vs).run C1.P w = .ok (.enter 5 vs) w := by kernel_rfl
set_option maxHeartbeats 8000000 in
theorem ldepth_pure (labels : List Int) (edges : List Edg) (e : Bool) (d : Int) (p : List Opp) : Pure C1 5 [dIs labels, dEs edges, .bool e, .int .i64 d, dOs p] (fun y => y = .bool true) := by
  have hal := alive18_pure
  have hmd := lmade_pure labels edges e d p
  refine pure_of c1_ok (pl := pl_ldp) (G := G_ldp) Tryz.func5 rfl Tryz.ntmps5 run_ldp cok_ldp (by simp) ?_
  (conv => whnf)
  (repeat' ((first | refine ord_ok (by (conv => whnf); (repeat' ((first | refine call_eq rfl hal ?_ | refine ify ?_ | refine ifn ?_ | refine i6 ?_ | refine ati ?_ | refine mst ?_ | refine rmd ?_ | refine ibo (fun _ => ?_) (fun _ => ?_)) <;> conv => whnf)); (all_goals (repeat' (first | exact trivial | exact rfl | refine And.intro ?_ ?_)))) ?_ | refine call_eq rfl hal ?_ | refine ify ?_ | refine ifn ?_ | refine i6 ?_ | refine ati ?_ | refine mst ?_ | refine rmd ?_ | refine ibo (fun _ => ?_) (fun _ => ?_)) <;> conv => whnf))
  refine call_pure rfl hmd ?_
  rintro y (rfl | ⟨G, rfl, hJ⟩)
  · ((conv => whnf); repeat' ((first | refine odw ?_ | refine ify ?_ | refine ifn ?_ | refine i6 ?_ | refine ati ?_ | refine mst ?_ | refine rmd ?_ | refine ibo (fun _ => ?_) (fun _ => ?_)) <;> conv => whnf))
    exact rfl
  · have h1 := hJ.d.1
    have h2 := hJ.d.2
    by_cases h4 : 4 < d
    · ((conv => whnf); repeat' ((first | refine odw ?_ | refine ify ?_ | refine ifn ?_ | refine i6 ?_ | refine ati ?_ | refine mst ?_ | refine rmd ?_ | refine ibo (fun _ => ?_) (fun _ => ?_)) <;> conv => whnf))
      exact rfl
    have hok := words_ok hJ.ok (by have := hJ.n; omega) hJ.m e
    have hsm := small_len hJ
    have ha := all_pure hJ 1048576
    obtain ⟨D, rfl⟩ := Int.eq_ofNat_of_zero_le (show 0 ≤ d by omega)
    have hJ1 : JobOk G e 1 p := ⟨hJ.ok, hJ.n, hJ.m, hJ.me, by omega, hJ.l16, hJ.lok⟩
    have hb := all_pure hJ1 1048576
    have hst := start_pure hJ
    have hgr : ∀ X : List Int, X.length ≤ 900 → Pure C1 26 [dJ G e D p, dIs X] (fun z => z = growY (wordsG G e) (psJ G e p) D X) := fun X hX => lGrow_pure hJ X hX
    have hkp : ∀ X : List Int, X.length ≤ 900 → Pure C1 21 [dJ G e D p, dIs X] (fun z => z = .bool (keptL (wordsG G e) (psJ G e p) X)) := fun X hX => lkeeps_pure hJ X hX
    rw [Int.toNat_natCast] at ha
    rw [show (1 : Int).toNat = 1 from rfl] at hb
    generalize wordsG G e = w at hok hsm ha hb hst hgr hkp
    generalize psJ G e p = ps at ha hb hst hgr hkp
    have hbig : ∀ m, m ≤ 8 → (sumP w ps m : Int) ≤ max 1048576 0 := fun m hm => by
      have := sumP_few hok ps hsm hm
      omega
    unfold allY at ha hb
    rw [if_pos (hbig _ (by omega))] at ha hb
    have hRl := rows_len w ps D
    have hRg : ∀ n, n < (rowsP w ps D).length → (rowsP w ps D)[n]? = some (rowP w ps n) := fun n hn => rows_get hn
    have hRe : ∀ k, (rowsP w ps D).length = k → k < D → rowP w ps k = [] := fun k h h' => rows_end h h'
    generalize rowsP w ps D = R at ha hRl hRg hRe
    have hdR : (R.map dLs).length = R.length := List.length_map _
    have hrl : ∀ k, (rowP w ps k).length ≤ 256 := fun k => Nat.le_trans (rowP_len hok ps k) (Nat.le_trans (Nat.pow_le_pow_right (by decide) hsm) (by decide))
    have hd0 : ((rowP w ps 0).map dIs).length = (rowP w ps 0).length := List.length_map _
    have hs0 := lsame_pure (rowP w ps 0) (by have := hrl 0; omega)
    have hO : (rowsP w ps 1).length ≤ 1 ∧ (((rowsP w ps 1).length = 1) ↔ 0 < (rowP w ps 0).length) ∧ ((rowsP w ps 1).length = 1 → (rowsP w ps 1)[0]? = some (rowP w ps 0)) := by
      rw [rows_one]
      by_cases hR0 : rowP w ps 0 = []
      · rw [if_pos hR0, hR0]
        exact ⟨by simp, by simp, by simp⟩
      · rw [if_neg hR0]
        exact ⟨by simp, by simpa using List.length_pos_iff.2 hR0, fun _ => rfl⟩
    generalize rowsP w ps 1 = O at hb hO
    have hdO : (O.map dLs).length = O.length := List.length_map _
    obtain ⟨hO1, hO2, hO3⟩ := hO
    have hiff : (((O.map dLs).length : Int) = 1 ↔ (0 : Int) < (((rowP w ps 0).map dIs).length : Int)) := by
      rw [hdO, hd0]
      constructor
      · intro h; have := hO2.1 (by omega); omega
      · intro h; have := hO2.2 (by omega); omega
    by_cases hOe : O.length = 1
    · have hgO : (O.map dLs)[0]? = some (dLs (rowP w ps 0)) := by rw [List.getElem?_map, hO3 hOe]; rfl
      (conv => whnf)
      (repeat' ((first | refine ord_ok (by (conv => whnf); (repeat' ((first | refine call_eq rfl ha ?_ | refine call_eq rfl hst ?_ | refine call_eq rfl hb ?_ | refine if_no (fun h => h hiff) ?_ | refine at_da hgO rfl ?_ | refine call_eq rfl hs0 ?_ | refine ify ?_ | refine ifn ?_ | refine i6 ?_ | refine ati ?_ | refine mst ?_ | refine rmd ?_ | refine ibo (fun _ => ?_) (fun _ => ?_)) <;> conv => whnf)); (all_goals (repeat' (first | exact trivial | exact rfl | refine And.intro ?_ ?_)))) ?_ | refine call_eq rfl ha ?_ | refine call_eq rfl hst ?_ | refine call_eq rfl hb ?_ | refine if_no (fun h => h hiff) ?_ | refine at_da hgO rfl ?_ | refine call_eq rfl hs0 ?_ | refine ify ?_ | refine ifn ?_ | refine i6 ?_ | refine ati ?_ | refine mst ?_ | refine rmd ?_ | refine ibo (fun _ => ?_) (fun _ => ?_)) <;> conv => whnf))
      refine loop_lo (ι := Nat) (fun n => n ≤ R.length) (fun n => [(21, .d (.int .i64 n)), (14, .d (.list 1 (R.map dLs))), (11, .own 11)]) (fun _ => [(11, .cells 30 [.d (dG G), .d (.bool e), .d (.int .i64 (D : Int)), .d (dOs p)])]) (fun n => R.length - n) 0 (fun _ => rfl) (Nat.zero_le _) (.refl _ _) ⟨rfl, rfl, rfl, trivial⟩ ⟨rfl, trivial⟩ ?_
      intro n hn
      refine sxCode_sound c1_ok (G := G_ldp) (pl := pl_ldp) _ _ _ _ (by kernel_rfl) ?_
      by_cases hnl : n < R.length
      · have hgn := hRg n hnl
        have hgd : (R.map dLs)[n]? = some (.list 1 ((rowP w ps n).map dIs)) := by rw [List.getElem?_map, hgn]; rfl
        have hPl : ((rowP w ps n).map dIs).length = (rowP w ps n).length := List.length_map _
        have hP256 := hrl n
        have hxs : ∀ x ∈ rowP w ps n, x.length = n + 1 := fun x hx => rw_len hok hx
        have hkx : ∀ x ∈ rowP w ps n, keptL w ps x = true := fun x hx => kept_row hok hx
        by_cases hlast : D ≤ n + 1
        · have hRn : R.length = n + 1 := by omega
          ((conv => whnf); repeat' ((first | refine odw ?_ | refine ify ?_ | refine ifn ?_ | refine i6 ?_ | refine ati ?_ | refine mst ?_ | refine rmd ?_ | refine ibo (fun _ => ?_) (fun _ => ?_)) <;> conv => whnf))
          refine loop_lo (ι := Nat) (fun i => i ≤ (rowP w ps n).length) (fun i => [(23, .d (.int .i64 i)), (22, .own 300), (21, .d (.int .i64 n)), (14, .d (.list 1 (R.map dLs))), (11, .own 11)]) (fun _ => [(11, .cells 30 [.d (dG G), .d (.bool e), .d (.int .i64 (D : Int)), .d (dOs p)]), (300, .slice 22 1 [])]) (fun i => (rowP w ps n).length - i) 0 (fun _ => rfl) (Nat.zero_le _) (.own 22 300 22 1 rfl rfl (.refl _ _)) ⟨rfl, rfl, rfl, rfl, rfl, trivial⟩ ⟨rfl, rfl, trivial⟩ ?_
          intro i hi
          refine sxCode_sound c1_ok (G := G_ldp) (pl := pl_ldp) _ _ _ _ (by kernel_rfl) ?_
          by_cases hil : i < (rowP w ps n).length
          · have hx := List.getElem?_eq_getElem hil
            have hm := List.getElem_mem hil
            generalize (rowP w ps n)[i] = x at hx hm
            have hxn := hxs x hm
            have hxd : ((rowP w ps n).map dIs)[i]? = some (.list 1 (x.map dI)) := by rw [List.getElem?_map, hx]; rfl
            have hg := hgr x (by omega)
            have hk := hkp x (by omega)
            rw [hkx x hm] at hk
            rw [show growY w ps D x = .tuple [.nils, .nili] by unfold growY; rw [if_neg (by rw [hkx x hm]; decide), if_pos (by omega)]] at hg
            (conv => whnf)
            (repeat' ((first | refine ord_ok (by (conv => whnf); (repeat' ((first | refine at_da hgd rfl ?_ | refine at_da hxd rfl ?_ | refine call_eq rfl hg ?_ | refine call_eq rfl hk ?_ | refine ify ?_ | refine ifn ?_ | refine i6 ?_ | refine ati ?_ | refine mst ?_ | refine rmd ?_ | refine ibo (fun _ => ?_) (fun _ => ?_)) <;> conv => whnf)); (all_goals (repeat' (first | exact trivial | exact rfl | refine And.intro ?_ ?_)))) ?_ | refine at_da hgd rfl ?_ | refine at_da hxd rfl ?_ | refine call_eq rfl hg ?_ | refine call_eq rfl hk ?_ | refine ify ?_ | refine ifn ?_ | refine i6 ?_ | refine ati ?_ | refine mst ?_ | refine rmd ?_ | refine ibo (fun _ => ?_) (fun _ => ?_)) <;> conv => whnf))
            exact ⟨i + 1, _, _, hil, .refl _ _, ⟨rfl, rfl, rfl, rfl, rfl, trivial⟩, ⟨rfl, rfl, trivial⟩, by omega⟩
          · (conv => whnf)
            (repeat' ((first | refine ord_ok (by (conv => whnf); (repeat' ((first | refine at_da hgd rfl ?_ | refine ify ?_ | refine ifn ?_ | refine i6 ?_ | refine ati ?_ | refine mst ?_ | refine rmd ?_ | refine ibo (fun _ => ?_) (fun _ => ?_)) <;> conv => whnf)); (all_goals (repeat' (first | exact trivial | exact rfl | refine And.intro ?_ ?_)))) ?_ | refine at_da hgd rfl ?_ | refine ify ?_ | refine ifn ?_ | refine i6 ?_ | refine ati ?_ | refine mst ?_ | refine rmd ?_ | refine ibo (fun _ => ?_) (fun _ => ?_)) <;> conv => whnf))
            exact ⟨n + 1, _, _, hnl, .refl _ _, ⟨rfl, rfl, rfl, trivial⟩, ⟨rfl, trivial⟩, by omega⟩
        · have hpre : ∀ m, (((rowP w ps n).take m).flatMap (growP w ps)).length ≤ 256 := fun m => by
            have := hrl (n + 1)
            unfold rowP at this
            rw [← List.take_append_drop m (rowP w ps n), List.flatMap_append, List.length_append] at this
            omega
          ((conv => whnf); repeat' ((first | refine odw ?_ | refine ify ?_ | refine ifn ?_ | refine i6 ?_ | refine ati ?_ | refine mst ?_ | refine rmd ?_ | refine ibo (fun _ => ?_) (fun _ => ?_)) <;> conv => whnf))
          refine loop_lo (ι := Nat) (fun i => i ≤ (rowP w ps n).length) (fun i => [(23, .d (.int .i64 i)), (22, .own 300), (21, .d (.int .i64 n)), (14, .d (.list 1 (R.map dLs))), (11, .own 11)]) (fun i => [(11, .cells 30 [.d (dG G), .d (.bool e), .d (.int .i64 (D : Int)), .d (dOs p)]), (300, .slice 22 1 ((((rowP w ps n).take i).flatMap (growP w ps)).map dIs))]) (fun i => (rowP w ps n).length - i) 0 (fun _ => rfl) (Nat.zero_le _) (.own 22 300 22 1 rfl rfl (.refl _ _)) ⟨rfl, rfl, rfl, rfl, rfl, trivial⟩ ⟨rfl, rfl, trivial⟩ ?_
          intro i hi
          refine sxCode_sound c1_ok (G := G_ldp) (pl := pl_ldp) _ _ _ _ (by kernel_rfl) ?_
          by_cases hil : i < (rowP w ps n).length
          · have hx := List.getElem?_eq_getElem hil
            have hm := List.getElem_mem hil
            generalize (rowP w ps n)[i] = x at hx hm
            have hxn := hxs x hm
            have hxd : ((rowP w ps n).map dIs)[i]? = some (.list 1 (x.map dI)) := by rw [List.getElem?_map, hx]; rfl
            have hg := hgr x (by omega)
            have hk := hkp x (by omega)
            rw [hkx x hm] at hk
            rw [show growY w ps D x = .tuple [dLs (growP w ps x), .nili] by unfold growY; rw [if_neg (by rw [hkx x hm]; decide), if_neg (by omega)]] at hg
            have hstp : ((rowP w ps n).take (i + 1)).flatMap (growP w ps) = ((rowP w ps n).take i).flatMap (growP w ps) ++ growP w ps x := by rw [List.take_add_one, hx, Option.toList_some, List.flatMap_append]; simp
            have g1 := hpre i
            have g2 := hpre (i + 1)
            rw [hstp, List.length_append] at g2
            have hfin : (((rowP w ps n).take i).flatMap (growP w ps)).map dIs ++ (growP w ps x).map dIs = (((rowP w ps n).take (i + 1)).flatMap (growP w ps)).map dIs := by rw [hstp, List.map_append]
            have hml : ((((rowP w ps n).take i).flatMap (growP w ps)).map dIs).length + ((growP w ps x).map dIs).length ≤ 4294967296 := by rw [List.length_map, List.length_map]; omega
            (conv => whnf)
            (repeat' ((first | refine ord_ok (by (conv => whnf); (repeat' ((first | refine at_da hgd rfl ?_ | refine at_da hxd rfl ?_ | refine call_eq rfl hg ?_ | refine call_eq rfl hk ?_ | refine most_ok hml ?_ | refine ify ?_ | refine ifn ?_ | refine i6 ?_ | refine ati ?_ | refine mst ?_ | refine rmd ?_ | refine ibo (fun _ => ?_) (fun _ => ?_)) <;> conv => whnf)); (all_goals (repeat' (first | exact trivial | exact rfl | refine And.intro ?_ ?_)))) ?_ | refine at_da hgd rfl ?_ | refine at_da hxd rfl ?_ | refine call_eq rfl hg ?_ | refine call_eq rfl hk ?_ | refine most_ok hml ?_ | refine ify ?_ | refine ifn ?_ | refine i6 ?_ | refine ati ?_ | refine mst ?_ | refine rmd ?_ | refine ibo (fun _ => ?_) (fun _ => ?_)) <;> conv => whnf))
            exact ⟨i + 1, _, _, hil, .refl _ _, ⟨rfl, rfl, rfl, rfl, rfl, trivial⟩, ⟨rfl, slice_is hfin, trivial⟩, by omega⟩
          · have hii : (rowP w ps n).take i = rowP w ps n := List.take_of_length_le (by omega)
            have hi1 : ((n : Nat) : Int) + 1 = ((n + 1 : Nat) : Int) := by omega
            rw [hii]
            have hnx : ((rowP w ps n).flatMap (growP w ps)).map dIs = (rowP w ps (n + 1)).map dIs := rfl
            rw [hnx]
            have hNl : ((rowP w ps (n + 1)).map dIs).length = (rowP w ps (n + 1)).length := List.length_map _
            by_cases hn2 : n + 1 < R.length
            · have hgn2 := hRg (n + 1) hn2
              have hgd2 : (R.map dLs)[n + 1]? = some (.list 1 ((rowP w ps (n + 1)).map dIs)) := by rw [List.getElem?_map, hgn2]; rfl
              have hs2 := lsame_pure (rowP w ps (n + 1)) (by have := hrl (n + 1); omega)
              (conv => whnf)
              (repeat' ((first | refine ord_ok (by (conv => whnf); (repeat' ((first | refine at_da hgd rfl ?_ | refine at_da hgd2 hi1 ?_ | refine call_eqb tab rfl hs2 rfl ?_ | refine ify ?_ | refine ifn ?_ | refine i6 ?_ | refine ati ?_ | refine mst ?_ | refine rmd ?_ | refine ibo (fun _ => ?_) (fun _ => ?_)) <;> conv => whnf)); (all_goals (repeat' (first | exact trivial | exact rfl | refine And.intro ?_ ?_)))) ?_ | refine at_da hgd rfl ?_ | refine at_da hgd2 hi1 ?_ | refine call_eqb tab rfl hs2 rfl ?_ | refine ify ?_ | refine ifn ?_ | refine i6 ?_ | refine ati ?_ | refine mst ?_ | refine rmd ?_ | refine ibo (fun _ => ?_) (fun _ => ?_)) <;> conv => whnf))
              exact ⟨n + 1, _, _, hnl, .refl _ _, ⟨rfl, rfl, rfl, trivial⟩, ⟨rfl, trivial⟩, by omega⟩
            · have hem := hRe (n + 1) (by omega) (by omega)
              have hNl0 : ((rowP w ps (n + 1)).map dIs).length = 0 := by rw [hem]; rfl
              (conv => whnf)
              (repeat' ((first | refine ord_ok (by (conv => whnf); (repeat' ((first | refine at_da hgd rfl ?_ | refine ify ?_ | refine ifn ?_ | refine i6 ?_ | refine ati ?_ | refine mst ?_ | refine rmd ?_ | refine ibo (fun _ => ?_) (fun _ => ?_)) <;> conv => whnf)); (all_goals (repeat' (first | exact trivial | exact rfl | refine And.intro ?_ ?_)))) ?_ | refine at_da hgd rfl ?_ | refine ify ?_ | refine ifn ?_ | refine i6 ?_ | refine ati ?_ | refine mst ?_ | refine rmd ?_ | refine ibo (fun _ => ?_) (fun _ => ?_)) <;> conv => whnf))
              exact ⟨n + 1, _, _, hnl, .refl _ _, ⟨rfl, rfl, rfl, trivial⟩, ⟨rfl, trivial⟩, by omega⟩
      · ((conv => whnf); repeat' ((first | refine odw ?_ | refine ify ?_ | refine ifn ?_ | refine i6 ?_ | refine ati ?_ | refine mst ?_ | refine rmd ?_ | refine ibo (fun _ => ?_) (fun _ => ?_)) <;> conv => whnf))
        exact rfl
    · (conv => whnf)
      (repeat' ((first | refine ord_ok (by (conv => whnf); (repeat' ((first | refine call_eq rfl ha ?_ | refine call_eq rfl hst ?_ | refine call_eq rfl hb ?_ | refine if_no (fun h => h hiff) ?_ | refine ify ?_ | refine ifn ?_ | refine i6 ?_ | refine ati ?_ | refine mst ?_ | refine rmd ?_ | refine ibo (fun _ => ?_) (fun _ => ?_)) <;> conv => whnf)); (all_goals (repeat' (first | exact trivial | exact rfl | refine And.intro ?_ ?_)))) ?_ | refine call_eq rfl ha ?_ | refine call_eq rfl hst ?_ | refine call_eq rfl hb ?_ | refine if_no (fun h => h hiff) ?_ | refine ify ?_ | refine ifn ?_ | refine i6 ?_ | refine ati ?_ | refine mst ?_ | refine rmd ?_ | refine ibo (fun _ => ?_) (fun _ => ?_)) <;> conv => whnf))
      refine loop_lo (ι := Nat) (fun n => n ≤ R.length) (fun n => [(21, .d (.int .i64 n)), (14, .d (.list 1 (R.map dLs))), (11, .own 11)]) (fun _ => [(11, .cells 30 [.d (dG G), .d (.bool e), .d (.int .i64 (D : Int)), .d (dOs p)])]) (fun n => R.length - n) 0 (fun _ => rfl) (Nat.zero_le _) (.refl _ _) ⟨rfl, rfl, rfl, trivial⟩ ⟨rfl, trivial⟩ ?_
      intro n hn
      refine sxCode_sound c1_ok (G := G_ldp) (pl := pl_ldp) _ _ _ _ (by kernel_rfl) ?_
      by_cases hnl : n < R.length
      · have hgn := hRg n hnl
        have hgd : (R.map dLs)[n]? = some (.list 1 ((rowP w ps n).map dIs)) := by rw [List.getElem?_map, hgn]; rfl
        have hPl : ((rowP w ps n).map dIs).length = (rowP w ps n).length := List.length_map _
        have hP256 := hrl n
        have hxs : ∀ x ∈ rowP w ps n, x.length = n + 1 := fun x hx => rw_len hok hx
        have hkx : ∀ x ∈ rowP w ps n, keptL w ps x = true := fun x hx => kept_row hok hx
        by_cases hlast : D ≤ n + 1
        · have hRn : R.length = n + 1 := by omega
          ((conv => whnf); repeat' ((first | refine odw ?_ | refine ify ?_ | refine ifn ?_ | refine i6 ?_ | refine ati ?_ | refine mst ?_ | refine rmd ?_ | refine ibo (fun _ => ?_) (fun _ => ?_)) <;> conv => whnf))
          refine loop_lo (ι := Nat) (fun i => i ≤ (rowP w ps n).length) (fun i => [(23, .d (.int .i64 i)), (22, .own 300), (21, .d (.int .i64 n)), (14, .d (.list 1 (R.map dLs))), (11, .own 11)]) (fun _ => [(11, .cells 30 [.d (dG G), .d (.bool e), .d (.int .i64 (D : Int)), .d (dOs p)]), (300, .slice 22 1 [])]) (fun i => (rowP w ps n).length - i) 0 (fun _ => rfl) (Nat.zero_le _) (.own 22 300 22 1 rfl rfl (.refl _ _)) ⟨rfl, rfl, rfl, rfl, rfl, trivial⟩ ⟨rfl, rfl, trivial⟩ ?_
          intro i hi
          refine sxCode_sound c1_ok (G := G_ldp) (pl := pl_ldp) _ _ _ _ (by kernel_rfl) ?_
          by_cases hil : i < (rowP w ps n).length
          · have hx := List.getElem?_eq_getElem hil
            have hm := List.getElem_mem hil
            generalize (rowP w ps n)[i] = x at hx hm
            have hxn := hxs x hm
            have hxd : ((rowP w ps n).map dIs)[i]? = some (.list 1 (x.map dI)) := by rw [List.getElem?_map, hx]; rfl
            have hg := hgr x (by omega)
            have hk := hkp x (by omega)
            rw [hkx x hm] at hk
            rw [show growY w ps D x = .tuple [.nils, .nili] by unfold growY; rw [if_neg (by rw [hkx x hm]; decide), if_pos (by omega)]] at hg
            (conv => whnf)
            (repeat' ((first | refine ord_ok (by (conv => whnf); (repeat' ((first | refine at_da hgd rfl ?_ | refine at_da hxd rfl ?_ | refine call_eq rfl hg ?_ | refine call_eq rfl hk ?_ | refine ify ?_ | refine ifn ?_ | refine i6 ?_ | refine ati ?_ | refine mst ?_ | refine rmd ?_ | refine ibo (fun _ => ?_) (fun _ => ?_)) <;> conv => whnf)); (all_goals (repeat' (first | exact trivial | exact rfl | refine And.intro ?_ ?_)))) ?_ | refine at_da hgd rfl ?_ | refine at_da hxd rfl ?_ | refine call_eq rfl hg ?_ | refine call_eq rfl hk ?_ | refine ify ?_ | refine ifn ?_ | refine i6 ?_ | refine ati ?_ | refine mst ?_ | refine rmd ?_ | refine ibo (fun _ => ?_) (fun _ => ?_)) <;> conv => whnf))
            exact ⟨i + 1, _, _, hil, .refl _ _, ⟨rfl, rfl, rfl, rfl, rfl, trivial⟩, ⟨rfl, rfl, trivial⟩, by omega⟩
          · (conv => whnf)
            (repeat' ((first | refine ord_ok (by (conv => whnf); (repeat' ((first | refine at_da hgd rfl ?_ | refine ify ?_ | refine ifn ?_ | refine i6 ?_ | refine ati ?_ | refine mst ?_ | refine rmd ?_ | refine ibo (fun _ => ?_) (fun _ => ?_)) <;> conv => whnf)); (all_goals (repeat' (first | exact trivial | exact rfl | refine And.intro ?_ ?_)))) ?_ | refine at_da hgd rfl ?_ | refine ify ?_ | refine ifn ?_ | refine i6 ?_ | refine ati ?_ | refine mst ?_ | refine rmd ?_ | refine ibo (fun _ => ?_) (fun _ => ?_)) <;> conv => whnf))
            exact ⟨n + 1, _, _, hnl, .refl _ _, ⟨rfl, rfl, rfl, trivial⟩, ⟨rfl, trivial⟩, by omega⟩
        · have hpre : ∀ m, (((rowP w ps n).take m).flatMap (growP w ps)).length ≤ 256 := fun m => by
            have := hrl (n + 1)
            unfold rowP at this
            rw [← List.take_append_drop m (rowP w ps n), List.flatMap_append, List.length_append] at this
            omega
          ((conv => whnf); repeat' ((first | refine odw ?_ | refine ify ?_ | refine ifn ?_ | refine i6 ?_ | refine ati ?_ | refine mst ?_ | refine rmd ?_ | refine ibo (fun _ => ?_) (fun _ => ?_)) <;> conv => whnf))
          refine loop_lo (ι := Nat) (fun i => i ≤ (rowP w ps n).length) (fun i => [(23, .d (.int .i64 i)), (22, .own 300), (21, .d (.int .i64 n)), (14, .d (.list 1 (R.map dLs))), (11, .own 11)]) (fun i => [(11, .cells 30 [.d (dG G), .d (.bool e), .d (.int .i64 (D : Int)), .d (dOs p)]), (300, .slice 22 1 ((((rowP w ps n).take i).flatMap (growP w ps)).map dIs))]) (fun i => (rowP w ps n).length - i) 0 (fun _ => rfl) (Nat.zero_le _) (.own 22 300 22 1 rfl rfl (.refl _ _)) ⟨rfl, rfl, rfl, rfl, rfl, trivial⟩ ⟨rfl, rfl, trivial⟩ ?_
          intro i hi
          refine sxCode_sound c1_ok (G := G_ldp) (pl := pl_ldp) _ _ _ _ (by kernel_rfl) ?_
          by_cases hil : i < (rowP w ps n).length
          · have hx := List.getElem?_eq_getElem hil
            have hm := List.getElem_mem hil
            generalize (rowP w ps n)[i] = x at hx hm
            have hxn := hxs x hm
            have hxd : ((rowP w ps n).map dIs)[i]? = some (.list 1 (x.map dI)) := by rw [List.getElem?_map, hx]; rfl
            have hg := hgr x (by omega)
            have hk := hkp x (by omega)
            rw [hkx x hm] at hk
            rw [show growY w ps D x = .tuple [dLs (growP w ps x), .nili] by unfold growY; rw [if_neg (by rw [hkx x hm]; decide), if_neg (by omega)]] at hg
            have hstp : ((rowP w ps n).take (i + 1)).flatMap (growP w ps) = ((rowP w ps n).take i).flatMap (growP w ps) ++ growP w ps x := by rw [List.take_add_one, hx, Option.toList_some, List.flatMap_append]; simp
            have g1 := hpre i
            have g2 := hpre (i + 1)
            rw [hstp, List.length_append] at g2
            have hfin : (((rowP w ps n).take i).flatMap (growP w ps)).map dIs ++ (growP w ps x).map dIs = (((rowP w ps n).take (i + 1)).flatMap (growP w ps)).map dIs := by rw [hstp, List.map_append]
            have hml : ((((rowP w ps n).take i).flatMap (growP w ps)).map dIs).length + ((growP w ps x).map dIs).length ≤ 4294967296 := by rw [List.length_map, List.length_map]; omega
            (conv => whnf)
            (repeat' ((first | refine ord_ok (by (conv => whnf); (repeat' ((first | refine at_da hgd rfl ?_ | refine at_da hxd rfl ?_ | refine call_eq rfl hg ?_ | refine call_eq rfl hk ?_ | refine most_ok hml ?_ | refine ify ?_ | refine ifn ?_ | refine i6 ?_ | refine ati ?_ | refine mst ?_ | refine rmd ?_ | refine ibo (fun _ => ?_) (fun _ => ?_)) <;> conv => whnf)); (all_goals (repeat' (first | exact trivial | exact rfl | refine And.intro ?_ ?_)))) ?_ | refine at_da hgd rfl ?_ | refine at_da hxd rfl ?_ | refine call_eq rfl hg ?_ | refine call_eq rfl hk ?_ | refine most_ok hml ?_ | refine ify ?_ | refine ifn ?_ | refine i6 ?_ | refine ati ?_ | refine mst ?_ | refine rmd ?_ | refine ibo (fun _ => ?_) (fun _ => ?_)) <;> conv => whnf))
            exact ⟨i + 1, _, _, hil, .refl _ _, ⟨rfl, rfl, rfl, rfl, rfl, trivial⟩, ⟨rfl, slice_is hfin, trivial⟩, by omega⟩
          · have hii : (rowP w ps n).take i = rowP w ps n := List.take_of_length_le (by omega)
            have hi1 : ((n : Nat) : Int) + 1 = ((n + 1 : Nat) : Int) := by omega
            rw [hii]
            have hnx : ((rowP w ps n).flatMap (growP w ps)).map dIs = (rowP w ps (n + 1)).map dIs := rfl
            rw [hnx]
            have hNl : ((rowP w ps (n + 1)).map dIs).length = (rowP w ps (n + 1)).length := List.length_map _
            by_cases hn2 : n + 1 < R.length
            · have hgn2 := hRg (n + 1) hn2
              have hgd2 : (R.map dLs)[n + 1]? = some (.list 1 ((rowP w ps (n + 1)).map dIs)) := by rw [List.getElem?_map, hgn2]; rfl
              have hs2 := lsame_pure (rowP w ps (n + 1)) (by have := hrl (n + 1); omega)
              (conv => whnf)
              (repeat' ((first | refine ord_ok (by (conv => whnf); (repeat' ((first | refine at_da hgd rfl ?_ | refine at_da hgd2 hi1 ?_ | refine call_eqb tab rfl hs2 rfl ?_ | refine ify ?_ | refine ifn ?_ | refine i6 ?_ | refine ati ?_ | refine mst ?_ | refine rmd ?_ | refine ibo (fun _ => ?_) (fun _ => ?_)) <;> conv => whnf)); (all_goals (repeat' (first | exact trivial | exact rfl | refine And.intro ?_ ?_)))) ?_ | refine at_da hgd rfl ?_ | refine at_da hgd2 hi1 ?_ | refine call_eqb tab rfl hs2 rfl ?_ | refine ify ?_ | refine ifn ?_ | refine i6 ?_ | refine ati ?_ | refine mst ?_ | refine rmd ?_ | refine ibo (fun _ => ?_) (fun _ => ?_)) <;> conv => whnf))
              exact ⟨n + 1, _, _, hnl, .refl _ _, ⟨rfl, rfl, rfl, trivial⟩, ⟨rfl, trivial⟩, by omega⟩
            · have hem := hRe (n + 1) (by omega) (by omega)
              have hNl0 : ((rowP w ps (n + 1)).map dIs).length = 0 := by rw [hem]; rfl
              (conv => whnf)
              (repeat' ((first | refine ord_ok (by (conv => whnf); (repeat' ((first | refine at_da hgd rfl ?_ | refine ify ?_ | refine ifn ?_ | refine i6 ?_ | refine ati ?_ | refine mst ?_ | refine rmd ?_ | refine ibo (fun _ => ?_) (fun _ => ?_)) <;> conv => whnf)); (all_goals (repeat' (first | exact trivial | exact rfl | refine And.intro ?_ ?_)))) ?_ | refine at_da hgd rfl ?_ | refine ify ?_ | refine ifn ?_ | refine i6 ?_ | refine ati ?_ | refine mst ?_ | refine rmd ?_ | refine ibo (fun _ => ?_) (fun _ => ?_)) <;> conv => whnf))
              exact ⟨n + 1, _, _, hnl, .refl _ _, ⟨rfl, rfl, rfl, trivial⟩, ⟨rfl, trivial⟩, by omega⟩
      · ((conv => whnf); repeat' ((first | refine odw ?_ | refine ify ?_ | refine ifn ?_ | refine i6 ?_ | refine ati ?_ | refine mst ?_ | refine rmd ?_ | refine ibo (fun _ => ?_) (fun _ => ?_)) <;> conv => whnf))
        exact rfl
end Go.Proofs.YtaadeobcnamgdaaGreatDoor
end

section
/- What the rows give (mini: one variable is laid): the variable, the arguments' elements, a world for the witness. -/
namespace Go.Proofs.YtaadeobcnamgdaaGreatDoor
open Go.ChangeShapes Go.WideShapes Go.ChangeAt Go.RowKit Go.Reg Go.Gr Go.Sx Go.ChangeMaps

theorem own : ownKnob Tryz.prog.godebug = none := by kernel_rfl
theorem laidOut : laidOutB Tryz.prog = true := by kernel_rfl
theorem gEt : Tryz.prog.globalNamed "errors.errorType" = some 0 := by kernel_rfl
theorem gRt : (Tryz.prog.cutTypes.find? (·.1 == "internal/reflectlite.rtype")).map (·.2) = some 284 := by kernel_rfl
theorem oneRow : ((List.range Tryz.prog.types.size).filter fun t => Tryz.prog.rowNamed t [101, 114, 114, 111, 114]) = [40] := by kernel_rfl
/-- all that is laid -/
abbrev laidAll : List (String × DataW Unit) := Rows.levelOnceRow.laid
theorem laid_parts {W : World} (h : laidMetH Tryz.prog laidAll W) : laidMet Tryz.prog [] W ∧ handlesMet Tryz.prog [("errors.errorType", Rows.laid_errors_errorType)] W := h

theorem var_exact {P : Program} {w : World} {name : String} {g : Nat} {cs : Array Value} (h : w.var? P name = some cs) (hg : P.globalNamed name = some g) : ∃ t fr, w.heap[g]? = some (.cells cs t fr) := by
  unfold World.var? at h
  rw [hg, Option.bind_some] at h
  cases hh : w.heap[g]? with
  | none => rw [hh] at h; cases h
  | some o =>
    rw [hh] at h
    cases o with
    | cells cs' t fr => simp only [Option.some.injEq] at h; subst h; exact ⟨t, fr, rfl⟩
    | _ => cases h
theorem errV_of_laid {W : World} (h : laidMetH Tryz.prog laidAll W) : ∃ t fr, W.heap[0]? = some (.cells #[.iface 284 (.agg #[.pointer (some ⟨5, 40, none⟩)])] t fr) := by
  obtain ⟨name, u, ty, e1, e2, e3, e4, e5⟩ := (laid_parts h).2 _ (List.mem_singleton.2 rfl)
  have en : name = [101, 114, 114, 111, 114] := (Option.some.inj e1).symm
  subst en
  obtain rfl := Option.some.inj (gRt.symm.trans e2)
  have hm : ty ∈ (List.range Tryz.prog.types.size).filter fun t => Tryz.prog.rowNamed t [101, 114, 114, 111, 114] := List.mem_filter.2 ⟨List.mem_range.2 e3, e4⟩
  rw [oneRow] at hm
  obtain rfl := List.mem_singleton.1 hm
  have hh : typeHandle Tryz.prog 40 = .pointer (some ⟨5, 40, none⟩) := by kernel_rfl
  rw [hh] at e5
  exact var_exact e5 gEt
theorem grep_of {W : World} {g : Nat} {cs : Array Value} {t : TypeId} {fr : Nat × Nat} {d : Da} (h : W.heap[g]? = some (.cells cs t fr)) (hr : Sx.RepC [] W d cs.toList) (hs : cs.size = Sx.gsz d) : Sx.GRep [] W (g, d) := by
  refine ⟨⟨[_], ?_, rfl⟩, by simp, cs, t, fr, h, hs⟩
  simp only [Sx.RepC]
  refine ⟨g, 0, cs.toList, rfl, by simp, (Array.getElem?_eq_some_iff.1 h).1, hr, fun j u hj => ?_⟩
  rw [Lib.cell_of_heap h, Nat.zero_add]
  simpa using hj
/-- the variables, as the walk knows them -/
theorem globs_of {W : World} (h : laidMetH Tryz.prog laidAll W) : Sx.Glob C1 [] W := by
  obtain ⟨t1, f1, e1⟩ := errV_of_laid h
  intro g hg
  rw [List.mem_singleton.1 hg]
  exact grep_of e1 (by simp only [Sx.RepC]) rfl

def eI : Sx.Enc Int := ⟨fun n => [.int .i64 n], dI, 1, fun _ => rfl, fun n u hu => by simp at hu; rw [hu]; rfl, fun O w n => by simp [dI, Sx.RepC]⟩
def eE : Sx.Enc Edg := ⟨fun e => [.int .i64 e.a, .int .i64 e.b], dE, 2, fun _ => rfl, fun n u hu => by simp at hu; rcases hu with rfl | rfl <;> rfl, fun O w n => by simp [dE, Sx.RepC, Sx.RepCs]⟩
set_option maxRecDepth 100000 in
theorem int_el {H : Type} {e' : TypeId × Value → H} {w : World} {base : Nat} {spare : Nat → Bool} {held : Bool} (n : Nat) (cs : List Value) (y : DataW H × List MemPlace)
    (h : DataW.trod e' Tryz.prog w base spare held n 3 cs = some y) : ∃ x : Int, cs = eI.enc x ∧ True := by
  obtain ⟨m, h0, _⟩ := DataW.trod_int Tryz.underlying3 h
  exact ⟨m, h0, trivial⟩
set_option maxRecDepth 100000 in
theorem edge_el {H : Type} {e' : TypeId × Value → H} {w : World} {base : Nat} {spare : Nat → Bool} {held : Bool} (n : Nat) (cs : List Value) (y : DataW H × List MemPlace)
    (h : DataW.trod e' Tryz.prog w base spare held n 105 cs = some y) : ∃ x : Edg, cs = eE.enc x ∧ True := by
  obtain ⟨xs, k, _, _, hcl, hxl, hf⟩ := DataW.trod_struct Tryz.underlying105 h
  have cl : cs.length = 2 := hcl.trans (by kernel_rfl)
  match cs, cl with
  | [c0, c1], _ =>
    have hx4 : xs.length = 2 := hxl
    match xs, hx4 with
    | [y0, y1], _ =>
      have k3 : Tryz.prog.cellsOf 3 = 1 := by kernel_rfl
      have g0 := hf 0 _ rfl
      have g1 := hf 1 _ rfl
      simp [k3] at g0 g1
      obtain ⟨n0, h0, _⟩ := DataW.trod_int Tryz.underlying3 g0
      obtain ⟨n1, h1, _⟩ := DataW.trod_int Tryz.underlying3 g1
      simp at h0 h1
      subst h0; subst h1
      exact ⟨⟨n0, n1⟩, rfl, trivial⟩
theorem rep_bool {O : List Nat} {w : World} {v : Value} {b : Bool} (h : Sx.Rep O w (.bool b) v) : v = .bool b := by obtain ⟨cs, r, rfl⟩ := h; simp only [Sx.RepC] at r; subst r; rfl
/-- A WORLD FOR THE WITNESS: the settled one, the variable's cell laid. -/
noncomputable def laidWorld (os : Os) : World :=
  let w0 := World.holding Tryz.prog os ⟨#[], #[], []⟩
  { w0 with heap := w0.heap.modify 0 fun
      | .cells _ t frozen => .cells #[.iface 284 (.agg #[.pointer (some ⟨5, 40, none⟩)])] t frozen
      | o => o }
theorem laidWorld_met (os : Os) (args : Array Value) : laidMetH Tryz.prog laidAll ((laidWorld os).forCall (fun _ _ => 0) ⟨#[], args, []⟩).memory :=
  laidMetH_of_parts (laidMet_nil _ _) (by kernel_rfl)
end Go.Proofs.YtaadeobcnamgdaaGreatDoor
end

section
/- Five parameters; tests that came in. -/
namespace Go.Reg
open Go Go.Deep
section
open Go.ChangeShapes Go.RowKit
variable {H : Type} {enc : TypeId × Value → H} {P : Program} {w : World} {base : Nat} {spare : Nat → Bool} {held : Bool}
theorem trodAll_five {t0 t1 t2 t3 t4 : TypeId} {args : Array Value} {ds : List (DataW H)} {ps : List MemPlace} (h : DataW.TrodAll enc P w base spare held [t0, t1, t2, t3, t4] args.toList ds ps) :
    ∃ v0 v1 v2 v3 v4 d0 d1 d2 d3 d4 p0 p1 p2 p3 p4, args = #[v0, v1, v2, v3, v4] ∧ ds = [d0, d1, d2, d3, d4] ∧ ps = p0 ++ (p1 ++ (p2 ++ (p3 ++ p4))) ∧ DataW.Trod enc P w base spare held t0 v0 d0 p0 ∧ DataW.Trod enc P w base spare held t1 v1 d1 p1 ∧ DataW.Trod enc P w base spare held t2 v2 d2 p2 ∧ DataW.Trod enc P w base spare held t3 v3 d3 p3 ∧ DataW.Trod enc P w base spare held t4 v4 d4 p4 := by
  obtain ⟨v0, vs0, d0, ds0, p0, q0, hargs, rfl, rfl, hd0, hr0⟩ := trodAll_cons h
  obtain ⟨v1, vs1, d1, ds1, p1, q1, rfl, rfl, rfl, hd1, hr1⟩ := trodAll_cons hr0
  obtain ⟨v2, vs2, d2, ds2, p2, q2, rfl, rfl, rfl, hd2, hr2⟩ := trodAll_cons hr1
  obtain ⟨v3, vs3, d3, ds3, p3, q3, rfl, rfl, rfl, hd3, hr3⟩ := trodAll_cons hr2
  obtain ⟨v4, vs4, d4, ds4, p4, q4, rfl, rfl, rfl, hd4, hr4⟩ := trodAll_cons hr3
  obtain ⟨rfl, rfl, rfl⟩ := trodAll_nil hr4
  exact ⟨v0, v1, v2, v3, v4, d0, d1, d2, d3, d4, p0, p1, p2, p3, p4, by cases args; simp_all, rfl, by simp, hd0, hd1, hd2, hd3, hd4⟩
theorem trodAll_mk5 {t0 t1 t2 t3 t4 : TypeId} {v0 v1 v2 v3 v4 : Value} {d0 d1 d2 d3 d4 : DataW H} {p0 p1 p2 p3 p4 : List MemPlace} (h0 : DataW.Trod enc P w base spare held t0 v0 d0 p0) (h1 : DataW.Trod enc P w base spare held t1 v1 d1 p1)
    (h2 : DataW.Trod enc P w base spare held t2 v2 d2 p2) (h3 : DataW.Trod enc P w base spare held t3 v3 d3 p3) (h4 : DataW.Trod enc P w base spare held t4 v4 d4 p4) : DataW.TrodAll enc P w base spare held [t0, t1, t2, t3, t4] [v0, v1, v2, v3, v4] [d0, d1, d2, d3, d4] (p0 ++ (p1 ++ (p2 ++ (p3 ++ p4)))) := ⟨p0, p1 ++ (p2 ++ (p3 ++ p4)), h0, trodAll_mk4 h1 h2 h3 h4, rfl⟩
end
end Go.Reg
namespace Go.Proofs.YtaadeobcnamgdaaGreatDoor
open Go.ChangeShapes Go.WideShapes Go.ChangeAt Go.RowKit Go.Reg Go.Gr Go.Sx Go.ChangeMaps

def eO : Sx.Enc Opp := ⟨fun e => [.int .i64 e.kind, .int .i64 e.n], dO, 2, fun _ => rfl, fun n u hu => by simp at hu; rcases hu with rfl | rfl <;> rfl, fun O w n => by simp [dO, Sx.RepC, Sx.RepCs]⟩
set_option maxRecDepth 100000 in
theorem op_el {H : Type} {e' : TypeId × Value → H} {w : World} {base : Nat} {spare : Nat → Bool} {held : Bool} (n : Nat) (cs : List Value) (y : DataW H × List MemPlace)
    (h : DataW.trod e' Tryz.prog w base spare held n 51 cs = some y) : ∃ x : Opp, cs = eO.enc x ∧ True := by
  obtain ⟨xs, k, _, _, hcl, hxl, hf⟩ := DataW.trod_struct Tryz.underlying51 h
  have cl : cs.length = 2 := hcl.trans (by kernel_rfl)
  match cs, cl with
  | [c0, c1], _ =>
    have hx4 : xs.length = 2 := hxl
    match xs, hx4 with
    | [y0, y1], _ =>
      have k3 : Tryz.prog.cellsOf 3 = 1 := by kernel_rfl
      have g0 := hf 0 _ rfl
      have g1 := hf 1 _ rfl
      simp [k3] at g0 g1
      obtain ⟨n0, h0, _⟩ := DataW.trod_int Tryz.underlying3 g0
      obtain ⟨n1, h1, _⟩ := DataW.trod_int Tryz.underlying3 g1
      simp at h0 h1
      subst h0; subst h1
      exact ⟨⟨n0, n1⟩, rfl, trivial⟩
end Go.Proofs.YtaadeobcnamgdaaGreatDoor
end
