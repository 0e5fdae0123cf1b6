/- Merged: Lvq Pgo Pgq Lve Lmd Rft Rfu Rfl Lgg Ldx Ldy Lgb Lgk. -/
import Derived.Test.YtjejpdfldmempaaGreatDoorOen
import Derived.Test.YtjejpdfldmempaaGreatDoorlgbg
import Derived.Test.YtjejpdfldmempaaGreatDoorlgaz
import Derived.Test.YtjejpdfldmempaaGreatDoorlgba
import Derived.Test.YtjejpdfldmempaaGreatDoorlgbb
import Derived.Test.YtjejpdfldmempaaGreatDoorlgbd
import Derived.Test.YtjejpdfldmempaaGreatDoorlgax
import Derived.Test.YtjejpdfldmempaaGreatDoorlgbe
import Derived.Test.YtjejpdfldmempaaGreatDoorlgac
import Derived.Test.YtjejpdfldmempaaGreatDoorlgae
import Derived.Test.YtjejpdfldmempaaGreatDoorArg
import Derived.Test.YtjejpdfldmempaaGreatDoorCards
import Derived.Test.YtjejpdfldmempaaGreatDoorTie
import Derived.WalkKit
import Derived.ProofKit
import Derived.OpenShut
import Derived.ChangeMaps5
import Derived.ChangeSame
import Derived.SizedLaws
import Derived.Deep.DeepHandedRow
import Derived.Lib.LaidTab
import Derived.LaidHandle
import Derived.Carry
import Derived.Stop.LaidErr
import Derived.Test.YtjejpdfldmempaaGreatDoorlgat
import Derived.Test.YtjejpdfldmempaaGreatDoorRows
import Derived.JoinedCond
section
namespace Go.Proofs.YtjejpdfldmempaaGreatDoor
open Go.Sx Go.RowKit Go.Reg Go.Gr
set_option maxRecDepth 100000
theorem allP_no {ps : List Int → Bool} {X : List Int} {n : Nat} (hn : n < X.length) (h : ps (X.take (n + 1)) = false) : allP ps X = false := by
 unfold allP
 rw [List.all_eq_false]
 exact ⟨n, List.mem_range.2 hn, by rw [h]; decide⟩
theorem allP_yes {ps : List Int → Bool} {X : List Int} (h : ∀ n, n < X.length → ps (X.take (n + 1)) = true) : allP ps X = true := by
 unfold allP
 rw [List.all_eq_true]
 exact fun n hn => h n (List.mem_range.1 hn)
def listsS : ByteArray := ⟨#[108, 105, 115, 116, 115]⟩
def allY (w : Gr) (ps : List Int → Bool) (D : Nat) (most : Int) : Da := if (sumP w ps D : Int) ≤ max most 0 then .tuple [.list 1 ((rowsP w ps D).map dLs), .nili] else .tuple [.nils, dF 13 0 listsS]
def growY (w : Gr) (ps : List Int → Bool) (d : Int) (X : List Int) : Da := if keptL w ps X = false then .tuple [.nils, dF 2 0 listS] else if d ≤ (X.length : Int) then .tuple [.nils, .nili] else .tuple [dLs (growP w ps X), .nili]
section
variable {G : Gr} {e : Bool} {d : Int} {l : List Opp}
def pl_lkq : List (Nat × Plan) := [(7, .leaf [1, 0, 0, 0, 0, 2, 0] [1, 2, 3, 4, 0, 5, 6] [0, 0, 0, 4, 14, 31, 63])]
def G_lkq : List FuncId := [75, 81, 82]
theorem cok_lkq : codeOk Tryz.prog G_lkq pl_lkq (Tryz.f33.body.getD .skip) = true := by kernel_rfl
theorem run_lkq (vs : Array Value) (w : World) : (callFunc 33 vs).run C1.P w = .ok (.enter 33 vs) w := by kernel_rfl
theorem lkeeps_pure (h : JobOk G e d l) (X : List Int) (hx : X.length ≤ 900) : Pure C1 33 [dJ G e d l, dIs X] (fun z => z = .bool (keptL (wordsG G e) (psJ G e l) X)) := by
 have hXl : (X.map dI).length = X.length := List.length_map _
 have hw := words_pure h
 have hok := words_ok h.ok (by have := h.n; omega) h.m e
 have hc := canon_pure (wordsG G e) hok X
 refine pure_of c1_ok (pl := pl_lkq) (G := G_lkq) Tryz.func33 rfl Tryz.ntmps33 run_lkq cok_lkq (by simp) ?_
 unfold keptL
 by_cases h0 : X = []
 ·subst h0
  rw [decide_eq_false (by simp)]
  (conv => whnf)
  (repeat' ((first | refine ord_ok ?_ ?_ | refine call_eq rfl hw ?_ | refine ify ?_ | refine ifn ?_ | refine i6 ?_ | refine ati ?_ | refine mst ?_ | refine rmd ?_ | refine ibo (fun _ => ?_) (fun _ => ?_) | exact oend) <;> conv => whnf))
  exact rfl
 have h0l : X.length ≠ 0 := fun e => h0 (List.eq_nil_of_length_eq_zero e)
 rw [decide_eq_true h0]
 cases hcv : canonV (wordsG G e) X with
 | false =>
   rw [hcv] at hc
   (conv => whnf)
   (repeat' ((first | refine ord_ok ?_ ?_ | refine call_eq rfl hw ?_ | refine call_eq rfl hc ?_ | refine ify ?_ | refine ifn ?_ | refine i6 ?_ | refine ati ?_ | refine mst ?_ | refine rmd ?_ | refine ibo (fun _ => ?_) (fun _ => ?_) | exact oend) <;> conv => whnf))
   exact rfl
 | true =>
   rw [hcv] at hc
   (conv => whnf)
   (repeat' ((first | refine ord_ok ?_ ?_ | refine call_eq rfl hw ?_ | refine call_eq rfl hc ?_ | refine ify ?_ | refine ifn ?_ | refine i6 ?_ | refine ati ?_ | refine mst ?_ | refine rmd ?_ | refine ibo (fun _ => ?_) (fun _ => ?_) | exact oend) <;> conv => whnf))
   refine loop_lo (ι := Nat) (fun n => n ≤ X.length ∧ ∀ k, k < n → psJ G e l (X.take (k + 1)) = true) (fun n => [(28, .d (.int .i64 n)), (27, .d (.int .i64 (X.map dI).length)), (2, .own 2), (1, .d (dIs X))]) (fun _ => [(2, .cells 58 [.d (dG G), .d (.bool e), .d (.int .i64 d), .d (dOs l)])]) (fun n => X.length - n) 0 (fun _ => rfl) ⟨Nat.zero_le _, fun k hk => absurd hk (Nat.not_lt_zero _)⟩ (.refl _ _) ⟨rfl, rfl, rfl, rfl, trivial⟩ ⟨rfl, trivial⟩ ?_
   rintro n ⟨hn, hps⟩
   refine sxCode_sound c1_ok (G := G_lkq) (pl := pl_lkq) _ _ _ _ (by kernel_rfl) ?_
   by_cases hlt : n < X.length
   ·have hp := passes_pure h (X.take (n + 1)) (fun e => by have hc := congrArg List.length e; rw [List.length_take, List.length_nil] at hc; omega) (by rw [List.length_take]; omega)
    have hi1 : (n : Int) + 1 = ((n + 1 : Nat) : Int) := by omega
    have hi2 : n + 1 ≤ (X.map dI).length := by omega
    rw [dIs_take] at hp
    cases hpv : psJ G e l (X.take (n + 1)) with
    | false =>
      rw [hpv] at hp
      rw [allP_no hlt hpv]
      (conv => whnf)
      (repeat' ((first | refine ord_ok ?_ ?_ | refine hi_is hi1 hi2 ?_ | refine call_eq rfl hp ?_ | refine ify ?_ | refine ifn ?_ | refine i6 ?_ | refine ati ?_ | refine mst ?_ | refine rmd ?_ | refine ibo (fun _ => ?_) (fun _ => ?_) | exact oend) <;> conv => whnf))
      exact rfl
    | true =>
      rw [hpv] at hp
      (conv => whnf)
      (repeat' ((first | refine ord_ok ?_ ?_ | refine hi_is hi1 hi2 ?_ | refine call_eq rfl hp ?_ | refine ify ?_ | refine ifn ?_ | refine i6 ?_ | refine ati ?_ | refine mst ?_ | refine rmd ?_ | refine ibo (fun _ => ?_) (fun _ => ?_) | exact oend) <;> conv => whnf))
      refine ⟨n + 1, _, _, ⟨hlt, fun k hk => ?_⟩, .refl _ _, ⟨rfl, rfl, rfl, rfl, trivial⟩, ⟨rfl, trivial⟩, by omega⟩
      rcases Nat.lt_or_ge k n with g | g
      ·exact hps k g
      ·rw [show k = n by omega]; exact hpv
   ·rw [allP_yes fun k hk => hps k (by omega)]
    ((conv => whnf); repeat' ((first | refine odw ?_ | refine ify ?_ | refine ifn ?_ | refine i6 ?_ | refine ati ?_ | refine mst ?_ | refine rmd ?_ | refine ibo (fun _ => ?_) (fun _ => ?_)) <;> conv => whnf))
    exact rfl
def pl_lgq : List (Nat × Plan) := []
def G_lgq : List FuncId := [75, 33, 76]
theorem cok_lgq : codeOk Tryz.prog G_lgq pl_lgq (Tryz.f38.body.getD .skip) = true := by kernel_rfl
theorem run_lgq (vs : Array Value) (w : World) : (callFunc 38 vs).run C1.P w = .ok (.enter 38 vs) w := by kernel_rfl
theorem lGrow_pure (h : JobOk G e d l) (X : List Int) (hx : X.length ≤ 900) : Pure C1 38 [dJ G e d l, dIs X] (fun z => z = growY (wordsG G e) (psJ G e l) d X) := by
 have hXl : (X.map dI).length = X.length := List.length_map _
 have hw := words_pure h
 have hk := lkeeps_pure h X hx
 have hg := lgrow_pure h X hx
 refine pure_of c1_ok (pl := pl_lgq) (G := G_lgq) Tryz.func38 rfl Tryz.ntmps38 run_lgq cok_lgq (by simp) ?_
 unfold growY
 cases hkv : keptL (wordsG G e) (psJ G e l) X with
 | false =>
   rw [hkv] at hk
   rw [if_pos rfl]
   (conv => whnf)
   (repeat' ((first | refine ord_ok ?_ ?_ | refine call_eq rfl hw ?_ | refine call_eq rfl hk ?_ | refine call_eq rfl (fnew_pure 2 0 listS) ?_ | refine ify ?_ | refine ifn ?_ | refine i6 ?_ | refine ati ?_ | refine mst ?_ | refine rmd ?_ | refine ibo (fun _ => ?_) (fun _ => ?_) | exact oend) <;> conv => whnf))
   exact rfl
 | true =>
   rw [hkv] at hk
   rw [if_neg (by decide)]
   by_cases hd : d ≤ (X.length : Int)
   ·rw [if_pos hd]
    (conv => whnf)
    (repeat' ((first | refine ord_ok ?_ ?_ | refine call_eq rfl hw ?_ | refine call_eq rfl hk ?_ | refine ify ?_ | refine ifn ?_ | refine i6 ?_ | refine ati ?_ | refine mst ?_ | refine rmd ?_ | refine ibo (fun _ => ?_) (fun _ => ?_) | exact oend) <;> conv => whnf))
    exact rfl
   ·rw [if_neg hd]
    (conv => whnf)
    (repeat' ((first | refine ord_ok ?_ ?_ | refine call_eq rfl hw ?_ | refine call_eq rfl hk ?_ | refine call_eq rfl hg ?_ | refine ify ?_ | refine ifn ?_ | refine i6 ?_ | refine ati ?_ | refine mst ?_ | refine rmd ?_ | refine ibo (fun _ => ?_) (fun _ => ?_) | exact oend) <;> conv => whnf))
    exact rfl
theorem sumP_stop {w : Gr} {ps : List Int → Bool} {k : Nat} (h : rowP w ps k = []) : ∀ {D : Nat}, k ≤ D → sumP w ps D = sumP w ps k := by
 intro D hD
 induction D with
 | zero => rw [show k = 0 by omega]
 | succ D ih =>
   rcases Nat.lt_or_ge D k with hk | hk
   ·rw [show D + 1 = k by omega]
   ·rw [sumP_step, ih hk, rowP_empty h D hk]; rfl
def pl_lal : List (Nat × Plan) := []
def G_lal : List FuncId := [40, 75, 76]
theorem cok_lal : codeOk Tryz.prog G_lal pl_lal (Tryz.f26.body.getD .skip) = true := by kernel_rfl
theorem run_lal (vs : Array Value) (w : World) : (callFunc 26 vs).run C1.P w = .ok (.enter 26 vs) w := by kernel_rfl
theorem all_pure (h : JobOk G e d l) (most : Int) : Pure C1 26 [dJ G e d l, .int .i64 most] (fun z => z = allY (wordsG G e) (psJ G e l) d.toNat most) := by
 have hs := start_pure h
 have hw := words_pure h
 have hgr : ∀ X : List Int, X.length ≤ 900 → Pure C1 76 [dJ G e d l, dG (wordsG G e), dIs X] (fun z => z = dLs (growP (wordsG G e) (psJ G e l) X)) := fun X hX => lgrow_pure h X hX
 have hok := words_ok h.ok (by have := h.n; omega) h.m e
 have hsm := small_len h
 have hd := h.d
 clear h
 obtain ⟨D, rfl⟩ := Int.eq_ofNat_of_zero_le (show 0 ≤ d by omega)
 rw [Int.toNat_natCast]
 generalize wordsG G e = w at hs hw hgr hok hsm ⊢
 generalize psJ G e l = ps at hs hgr ⊢
 have hrl : ∀ k, (rowP w ps k).length ≤ 256 := fun k => Nat.le_trans (rowP_len hok ps k) (Nat.le_trans (Nat.pow_le_pow_right (by decide) hsm) (by decide))
 have hfew : ∀ m, m ≤ 8 → sumP w ps m ≤ 2048 := fun m hm => sumP_few hok ps hsm hm
 refine pure_of c1_ok (pl := pl_lal) (G := G_lal) Tryz.func26 rfl Tryz.ntmps26 run_lal cok_lal (by simp) ?_
 (conv => whnf)
 (repeat' ((first | refine ord_ok ?_ ?_ | refine call_eq rfl hs ?_ | refine call_eq rfl hw ?_ | refine ify ?_ | refine ifn ?_ | refine i6 ?_ | refine ati ?_ | refine mst ?_ | refine rmd ?_ | refine ibo (fun _ => ?_) (fun _ => ?_) | exact oend) <;> conv => whnf))
 refine loop_lo (ι := Nat) (fun k => k < D ∧ (∀ j, j < k → rowP w ps j ≠ []) ∧ (sumP w ps k : Int) ≤ max most 0) (fun k => [(11, .d (.int .i64 (sumP w ps k : Nat))), (10, .own 300), (8, .d (dG w)), (6, .d (dLs (rowP w ps k))), (2, .own 2), (1, .d (.int .i64 most))]) (fun k => [(2, .cells 58 [.d (dG G), .d (.bool e), .d (.int .i64 (D : Int)), .d (dOs l)]), (300, .slice 70 1 (((List.range k).map (rowP w ps)).map dLs))]) (fun k => D - k) 0 (fun _ => rfl) ⟨by omega, fun j hj => absurd hj (Nat.not_lt_zero _), by rw [show sumP w ps 0 = 0 from rfl]; omega⟩
  (.own 10 300 70 1 rfl rfl (.refl _ _)) ⟨rfl, rfl, rfl, rfl, rfl, rfl, trivial⟩ ⟨rfl, rfl, trivial⟩ ?_
 rintro k ⟨hkD, hne, hsum⟩
 refine sxCode_sound c1_ok (G := G_lal) (pl := pl_lal) _ _ _ _ (by kernel_rfl) ?_
 have hRl := hrl k
 have hdl : ((rowP w ps k).map dIs).length = (rowP w ps k).length := List.length_map _
 have hk8 := hfew (k + 1) (by omega)
 have hst := sumP_step w ps k
 have hOl : (((List.range k).map (rowP w ps)).map dLs).length = k := by rw [List.length_map, List.length_map, List.length_range]
 have hrg : (List.range k).length = k := List.length_range
 have hO1 : ((List.range (k + 1)).map (rowP w ps)).map dLs = ((List.range k).map (rowP w ps)).map dLs ++ [dLs (rowP w ps k)] := by rw [List.range_succ, List.map_append, List.map_append]; rfl
 have hO2 : (((List.range k).map (rowP w ps)).map dLs ++ [dLs (rowP w ps k)]).length = k + 1 := by rw [List.length_append, hOl]; rfl
 by_cases hR : rowP w ps k = []
 ·have eS := sumP_stop hR (Nat.le_of_lt hkD)
  have eR : rowsP w ps D = (List.range k).map (rowP w ps) := by rw [rowsP_stop hR (Nat.le_of_lt hkD), rowsP_full hne]
  unfold allY
  rw [eS, if_pos hsum, eR]
  rw [hR]
  have hd0 : (List.map dIs ([] : List (List Int))).length = 0 := rfl
  ((conv => whnf); repeat' ((first | refine odw ?_ | refine ify ?_ | refine ifn ?_ | refine i6 ?_ | refine ati ?_ | refine mst ?_ | refine rmd ?_ | refine ibo (fun _ => ?_) (fun _ => ?_)) <;> conv => whnf))
  exact rfl
 have hR0 : (rowP w ps k).length ≠ 0 := fun e => hR (List.eq_nil_of_length_eq_zero e)
 by_cases hm : (sumP w ps (k + 1) : Int) ≤ max most 0
 ·by_cases hl : k + 1 = D
  ·have eR : rowsP w ps D = (List.range (k + 1)).map (rowP w ps) := by
    rw [← hl]
    exact rowsP_full fun j hj => by
     rcases Nat.lt_or_ge j k with g | g
     ·exact hne j g
     ·rw [show j = k by omega]; exact hR
   unfold allY
   rw [if_pos (by rw [← hl]; exact hm), eR, hO1]
   ((conv => whnf); repeat' ((first | refine odw ?_ | refine ify ?_ | refine ifn ?_ | refine i6 ?_ | refine ati ?_ | refine mst ?_ | refine rmd ?_ | refine ibo (fun _ => ?_) (fun _ => ?_)) <;> conv => whnf))
   exact rfl
  ·have hst2 : (sumP w ps k : Int) + (((rowP w ps k).map dIs).length : Int) = (sumP w ps (k + 1) : Nat) := by rw [hdl, hst]; omega
   have hpre : ∀ n, (((rowP w ps k).take n).flatMap (growP w ps)).length ≤ 256 := fun n => by
    have := hrl (k + 1)
    unfold rowP at this
    rw [← List.take_append_drop n (rowP w ps k), List.flatMap_append, List.length_append] at this
    omega
   have hxl : ∀ x ∈ rowP w ps k, x.length ≤ 900 := fun x hx => by
    have := ((mem_rowP hok k).1 hx).2.1
    omega
   ((conv => whnf); repeat' ((first | refine odw ?_ | refine ify ?_ | refine ifn ?_ | refine i6 ?_ | refine ati ?_ | refine mst ?_ | refine rmd ?_ | refine ibo (fun _ => ?_) (fun _ => ?_)) <;> conv => whnf))
   refine loop_lo (ι := Nat) (fun i => i ≤ (rowP w ps k).length) (fun i => [(51, .d (.int .i64 i)), (50, .d (.int .i64 ((rowP w ps k).map dIs).length)), (49, .d (dLs (rowP w ps k))), (12, .own 301), (11, .d (.int .i64 ((sumP w ps k : Int) + (((rowP w ps k).map dIs).length : Int)))), (10, .own 300), (8, .d (dG w)), (2, .own 2), (1, .d (.int .i64 most))]) (fun i => [(2, .cells 58 [.d (dG G), .d (.bool e), .d (.int .i64 (D : Int)), .d (dOs l)]), (300, .slice 70 1 (((List.range k).map (rowP w ps)).map dLs ++ [dLs (rowP w ps k)])), (301, .slice 28 1 ((((rowP w ps k).take i).flatMap (growP w ps)).map dIs))]) (fun i => (rowP w ps k).length - i) 0 (fun _ => rfl) (Nat.zero_le _)
    (.own 12 301 28 1 rfl rfl (.refl _ _)) ⟨rfl, rfl, rfl, rfl, rfl, rfl, rfl, rfl, rfl, trivial⟩ ⟨rfl, rfl, rfl, trivial⟩ ?_
   intro i hi
   refine sxCode_sound c1_ok (G := G_lal) (pl := pl_lal) _ _ _ _ (by kernel_rfl) ?_
   by_cases hil : i < (rowP w ps k).length
   ·have hx := List.getElem?_eq_getElem hil
    have hg := hgr _ (hxl _ (List.getElem_mem hil))
    generalize (rowP w ps k)[i] = x at hx hg
    have hxd : ((rowP w ps k).map dIs)[i]? = some (dIs x) := by rw [List.getElem?_map, hx]; rfl
    have hstp : ((rowP w ps k).take (i + 1)).flatMap (growP w ps) = ((rowP w ps k).take i).flatMap (growP w ps) ++ growP w ps x := by rw [List.take_add_one, hx, Option.toList_some, List.flatMap_append]; simp
    have h1 := hpre i
    have h2 := hpre (i + 1)
    rw [hstp, List.length_append] at h2
    have hfin : (((rowP w ps k).take i).flatMap (growP w ps)).map dIs ++ (growP w ps x).map dIs = (((rowP w ps k).take (i + 1)).flatMap (growP w ps)).map dIs := by rw [hstp, List.map_append]
    have hml : ((((rowP w ps k).take i).flatMap (growP w ps)).map dIs).length + ((growP w ps x).map dIs).length ≤ 4294967296 := by rw [List.length_map, List.length_map]; omega
    (conv => whnf)
    (repeat' ((first | refine ord_ok ?_ ?_ | refine at_da hxd rfl ?_ | refine call_eq rfl hg ?_ | refine most_ok hml ?_ | refine ify ?_ | refine ifn ?_ | refine i6 ?_ | refine ati ?_ | refine mst ?_ | refine rmd ?_ | refine ibo (fun _ => ?_) (fun _ => ?_) | exact oend) <;> conv => whnf))
    exact ⟨i + 1, _, _, hil, .refl _ _, ⟨rfl, rfl, rfl, rfl, rfl, rfl, rfl, rfl, rfl, trivial⟩, ⟨rfl, rfl, slice_is hfin, trivial⟩, by omega⟩
   ·have hii : (rowP w ps k).take i = rowP w ps k := List.take_of_length_le (by omega)
    rw [hii]
    ((conv => whnf); repeat' ((first | refine odw ?_ | refine ify ?_ | refine ifn ?_ | refine i6 ?_ | refine ati ?_ | refine mst ?_ | refine rmd ?_ | refine ibo (fun _ => ?_) (fun _ => ?_)) <;> conv => whnf))
    refine ⟨k + 1, _, _, ⟨by omega, fun j hj => ?_, hm⟩, .frz 301 rfl (.refl _ _), ⟨congrArg (fun z => Dat.d (.int .i64 z)) hst2, rfl, rfl, rfl, rfl, rfl, trivial⟩, ⟨rfl, slice_is hO1.symm, trivial⟩, by omega⟩
    rcases Nat.lt_or_ge j k with g | g
    ·exact hne j g
    ·rw [show j = k by omega]; exact hR
 ·have hbig := sumP_mono w ps (show k + 1 ≤ D from hkD)
  unfold allY
  rw [if_neg (by omega)]
  (conv => whnf)
  (repeat' ((first | refine ord_ok ?_ ?_ | refine call_eq rfl (fnew_pure 13 0 listsS) ?_ | refine ify ?_ | refine ifn ?_ | refine i6 ?_ | refine ati ?_ | refine mst ?_ | refine rmd ?_ | refine ibo (fun _ => ?_) (fun _ => ?_) | exact oend) <;> conv => whnf))
  exact rfl
end
end Go.Proofs.YtjejpdfldmempaaGreatDoor
end
section
namespace Go.Proofs.YtjejpdfldmempaaGreatDoor
open Go.Sx Go.RowKit Go.Reg Go.Gr
set_option maxRecDepth 100000
def pl_rgt : List (Nat × Plan) := []
def G_rgt : List FuncId := []
theorem cok_rgt : codeOk Tryz.prog G_rgt pl_rgt (Tryz.f168.body.getD .skip) = true := by kernel_rfl
theorem run_rgt (vs : Array Value) (w : World) : (callFunc 168 vs).run C1.P w = .ok (.enter 168 vs) w := by kernel_rfl
theorem rtakes_pure (k : Int) : Pure C1 168 [.int .i64 k] (fun y => y = .bool (takesO k)) := by
 refine pure_of c1_ok (pl := pl_rgt) (G := G_rgt) Tryz.func168 rfl Tryz.ntmps168 run_rgt cok_rgt (by simp) ?_
 by_cases h1 : k = 1
 ·subst h1; ((conv => whnf); repeat' ((first | refine odw ?_ | refine ify ?_ | refine ifn ?_ | refine i6 ?_ | refine ati ?_ | refine mst ?_ | refine rmd ?_ | refine ibo (fun _ => ?_) (fun _ => ?_)) <;> conv => whnf)); exact rfl
 by_cases h6 : k = 6
 ·subst h6; ((conv => whnf); repeat' ((first | refine odw ?_ | refine ify ?_ | refine ifn ?_ | refine i6 ?_ | refine ati ?_ | refine mst ?_ | refine rmd ?_ | refine ibo (fun _ => ?_) (fun _ => ?_)) <;> conv => whnf)); exact rfl
 by_cases h8 : k = 8
 ·subst h8; ((conv => whnf); repeat' ((first | refine odw ?_ | refine ify ?_ | refine ifn ?_ | refine i6 ?_ | refine ati ?_ | refine mst ?_ | refine rmd ?_ | refine ibo (fun _ => ?_) (fun _ => ?_)) <;> conv => whnf)); exact rfl
 have e : takesO k = true := by unfold takesO; simp [h1, h6, h8]
 rw [e]
 ((conv => whnf); repeat' ((first | refine odw ?_ | refine ify ?_ | refine ifn ?_ | refine i6 ?_ | refine ati ?_ | refine mst ?_ | refine rmd ?_ | refine ibo (fun _ => ?_) (fun _ => ?_)) <;> conv => whnf))
 all_goals exact congrArg Da.bool (decide_eq_true h8)
def pl_rgf : List (Nat × Plan) := []
def G_rgf : List FuncId := [168]
theorem cok_rgf : codeOk Tryz.prog G_rgf pl_rgf (Tryz.f114.body.getD .skip) = true := by kernel_rfl
theorem run_rgf (vs : Array Value) (w : World) : (callFunc 114 vs).run C1.P w = .ok (.enter 114 vs) w := by kernel_rfl
theorem rfault_pure (o : Opp) : Pure C1 114 [dO o] (fun y => y = .int .i64 (codeO o)) := by
 have ht := rtakes_pure o.kind
 refine pure_of c1_ok (pl := pl_rgf) (G := G_rgf) Tryz.func114 rfl Tryz.ntmps114 run_rgf cok_rgf (by simp) ?_
 by_cases hk : o.kind < 1 ∨ 8 < o.kind
 ·have e : codeO o = 1 := by unfold codeO; rw [if_pos hk]
  rw [e]
  (conv => whnf)
  (repeat' ((first | refine ord_ok ?_ ?_ | refine call_eq rfl ht ?_ | refine ify ?_ | refine ifn ?_ | refine i6 ?_ | refine ati ?_ | refine mst ?_ | refine rmd ?_ | refine ibo (fun _ => ?_) (fun _ => ?_) | exact oend) <;> conv => whnf))
  all_goals first | exact rfl | (exfalso; omega)
 ·by_cases hr : o.n < 0 ∨ 255 < o.n ∨ 0 < o.n ∧ takesO o.kind = false
  ·have e : codeO o = 3 := by unfold codeO; rw [if_neg hk, if_pos hr]
   rw [e]
   cases htk : takesO o.kind <;> rw [htk] at ht hr <;>
   ·(conv => whnf)
    (repeat' ((first | refine ord_ok ?_ ?_ | refine call_eq rfl ht ?_ | refine ify ?_ | refine ifn ?_ | refine i6 ?_ | refine ati ?_ | refine mst ?_ | refine rmd ?_ | refine ibo (fun _ => ?_) (fun _ => ?_) | exact oend) <;> conv => whnf))
    all_goals first | exact rfl | (exfalso; simp at hr; omega) | (exfalso; omega)
  ·have e : codeO o = 0 := by unfold codeO; rw [if_neg hk, if_neg hr]
   rw [e]
   cases htk : takesO o.kind <;> rw [htk] at ht hr <;>
   ·(conv => whnf)
    (repeat' ((first | refine ord_ok ?_ ?_ | refine call_eq rfl ht ?_ | refine ify ?_ | refine ifn ?_ | refine i6 ?_ | refine ati ?_ | refine mst ?_ | refine rmd ?_ | refine ibo (fun _ => ?_) (fun _ => ?_) | exact oend) <;> conv => whnf))
    all_goals first | exact rfl | (exfalso; simp at hr; omega) | (exfalso; omega)
def pl_rgr : List (Nat × Plan) := []
def G_rgr : List FuncId := [114]
theorem cok_rgr : codeOk Tryz.prog G_rgr pl_rgr (Tryz.f73.body.getD .skip) = true := by kernel_rfl
theorem run_rgr (vs : Array Value) (w : World) : (callFunc 73 vs).run C1.P w = .ok (.enter 73 vs) w := by kernel_rfl
theorem rright17_pure (l : List Opp) (hm : l.length ≤ 9223372036854775807) : Pure C1 73 [dOs l] (fun y => (y = .tuple [.int .i64 0, .int .i64 0] ∧ l.length ≤ 16 ∧ ∀ o ∈ l, codeO o = 0) ∨ ∃ c i : Int, c ≠ 0 ∧ y = .tuple [.int .i64 c, .int .i64 i]) := by
 have hl : (l.map dO).length = l.length := List.length_map _
 refine pure_of c1_ok (pl := pl_rgr) (G := G_rgr) Tryz.func73 rfl Tryz.ntmps73 run_rgr cok_rgr (by simp) ?_
 by_cases h16 : 16 < l.length
 ·((conv => whnf); repeat' ((first | refine odw ?_ | refine ify ?_ | refine ifn ?_ | refine i6 ?_ | refine ati ?_ | refine mst ?_ | refine rmd ?_ | refine ibo (fun _ => ?_) (fun _ => ?_)) <;> conv => whnf))
  exact .inr ⟨6, 0, by decide, rfl⟩
 ((conv => whnf); repeat' ((first | refine odw ?_ | refine ify ?_ | refine ifn ?_ | refine i6 ?_ | refine ati ?_ | refine mst ?_ | refine rmd ?_ | refine ibo (fun _ => ?_) (fun _ => ?_)) <;> conv => whnf))
 refine loop_lo (ι := Nat) (fun i => i ≤ l.length ∧ ∀ y ∈ l.take i, codeO y = 0) (fun i => [(4, .d (.int .i64 i)), (0, .d (dOs l))]) (fun _ => []) (fun i => l.length - i) 0 (fun _ => rfl) ⟨Nat.zero_le _, by simp⟩ (.refl _ _) ⟨rfl, rfl, trivial⟩ trivial ?_
 rintro i ⟨hi, hne⟩
 refine sxCode_sound c1_ok (G := G_rgr) (pl := pl_rgr) _ _ _ _ (by kernel_rfl) ?_
 by_cases hlt : i < l.length
 ·have hx := List.getElem?_eq_getElem hlt
  generalize l[i] = y at hx
  have hxd : (l.map dO)[i]? = some (.agg [.int .i64 y.kind, .int .i64 y.n]) := by rw [List.getElem?_map, hx]; rfl
  have hf := rfault_pure y
  by_cases hy : codeO y = 0
  ·rw [hy] at hf
   (conv => whnf)
   (repeat' ((first | refine ord_ok ?_ ?_ | refine at_da hxd rfl ?_ | refine call_eq rfl hf ?_ | refine ify ?_ | refine ifn ?_ | refine i6 ?_ | refine ati ?_ | refine mst ?_ | refine rmd ?_ | refine ibo (fun _ => ?_) (fun _ => ?_) | exact oend) <;> conv => whnf))
   refine ⟨i + 1, _, _, ⟨hlt, ?_⟩, .refl _ _, ⟨rfl, rfl, trivial⟩, trivial, by omega⟩
   intro z hz
   rw [List.take_add_one, hx] at hz
   rcases List.mem_append.1 hz with hz | hz
   ·exact hne z hz
   ·simp at hz; subst hz; exact hy
  ·(conv => whnf)
   (repeat' ((first | refine ord_ok ?_ ?_ | refine at_da hxd rfl ?_ | refine call_eq rfl hf ?_ | refine ify ?_ | refine ifn ?_ | refine i6 ?_ | refine ati ?_ | refine mst ?_ | refine rmd ?_ | refine ibo (fun _ => ?_) (fun _ => ?_) | exact oend) <;> conv => whnf))
   exact .inr ⟨_, _, hy, rfl⟩
 ·have hii : l.take i = l := List.take_of_length_le (by omega)
  rw [hii] at hne
  ((conv => whnf); repeat' ((first | refine odw ?_ | refine ify ?_ | refine ifn ?_ | refine i6 ?_ | refine ati ?_ | refine mst ?_ | refine rmd ?_ | refine ibo (fun _ => ?_) (fun _ => ?_)) <;> conv => whnf))
  exact .inl ⟨rfl, by omega, hne⟩
end Go.Proofs.YtjejpdfldmempaaGreatDoor
end
section
namespace Go.Proofs.YtjejpdfldmempaaGreatDoor
open Go.Sx Go.RowKit Go.Reg Go.Gr
set_option maxRecDepth 100000
def pl_l7of : List (Nat × Plan) := []
def G_l7of : List FuncId := []
theorem cok_l7of : codeOk Tryz.prog G_l7of pl_l7of (Tryz.f23.body.getD .skip) = true := by kernel_rfl
theorem run_l7of (vs : Array Value) (w : World) : (callFunc 23 vs).run C1.P w = .ok (.enter 23 vs) w := by kernel_rfl
theorem law17of_pure (l : List Opp) (hm : l.length ≤ 8796093022207) : Pure C1 23 [dOs l] (fun y => y = dOs l) := by
 have hel : (l.map dO).length = l.length := List.length_map _
 refine pure_of c1_ok (pl := pl_l7of) (G := G_l7of) Tryz.func23 rfl Tryz.ntmps23 run_l7of cok_l7of (by simp) ?_
 ((conv => whnf); repeat' ((first | refine odw ?_ | refine ify ?_ | refine ifn ?_ | refine i6 ?_ | refine ati ?_ | refine mst ?_ | refine rmd ?_ | refine ibo (fun _ => ?_) (fun _ => ?_)) <;> conv => whnf))
 refine loop_lo (ι := Nat) (fun i => i ≤ l.length) (fun i => [(4, .d (.int .i64 i)), (3, .own 300), (0, .d (dOs l))]) (fun i => [(300, .slice 140 2 ((l.take i).map dO))]) (fun i => l.length - i) 0 (fun _ => rfl) (Nat.zero_le _)
  (.own 3 300 140 2 rfl rfl (.refl _ _)) ⟨rfl, rfl, rfl, trivial⟩ ⟨rfl, trivial⟩ ?_
 intro i hi
 refine sxCode_sound c1_ok (G := G_l7of) (pl := pl_l7of) _ _ _ _ (by kernel_rfl) ?_
 by_cases hlt : i < l.length
 ·have hx := List.getElem?_eq_getElem hlt
  generalize l[i] = e at hx
  have hxd : (l.map dO)[i]? = some (dO e) := by rw [List.getElem?_map, hx]; rfl
  have htl : ((l.take i).map dO).length = i := by rw [List.length_map, List.length_take]; omega
  have hfin : (l.take i).map dO ++ [dO e] = (l.take (i + 1)).map dO := by rw [List.take_add_one, hx, Option.toList_some, List.map_append]; rfl
  generalize (l.take i).map dO = Z at htl hfin ⊢
  (conv => whnf)
  (repeat' ((first | refine ord_ok ?_ ?_ | refine at_da hxd rfl ?_ | refine most16 (by simp only [List.length_cons, List.length_nil]; omega) ?_ | refine ify ?_ | refine ifn ?_ | refine i6 ?_ | refine ati ?_ | refine mst ?_ | refine rmd ?_ | refine ibo (fun _ => ?_) (fun _ => ?_) | exact oend) <;> conv => whnf))
  exact ⟨i + 1, _, _, hlt, .refl _ _, ⟨rfl, rfl, rfl, trivial⟩, ⟨slice_is hfin, trivial⟩, by omega⟩
 ·have hii : l.take i = l := List.take_of_length_le (by omega)
  rw [hii]
  ((conv => whnf); repeat' ((first | refine odw ?_ | refine ify ?_ | refine ifn ?_ | refine i6 ?_ | refine ati ?_ | refine mst ?_ | refine rmd ?_ | refine ibo (fun _ => ?_) (fun _ => ?_)) <;> conv => whnf))
  exact rfl
end Go.Proofs.YtjejpdfldmempaaGreatDoor
end
section
namespace Go.Proofs.YtjejpdfldmempaaGreatDoor
open Go.Gr
def triG : Gr := ⟨[0, 0, 0], [⟨0, 1⟩, ⟨0, 2⟩, ⟨1, 2⟩]⟩
theorem tri_canon : canon triG.edges = triG.edges := (canon_eq (by decide) (by decide) (by decide)).symm
theorem tri_err : newErr triG.labels triG.edges = none := by decide
theorem tri_ok : triG.Ok := by
 have := canon_ok tri_err
 rwa [tri_canon] at this
theorem grow_comp {G : Gr} (hG : G.Ok) (l : List Int) : growV G l = if canonV G l = true then (rnextV G l G.labels.length).filter (fitsV G l) else [] := by
 unfold growV
 rw [rnext_eq hG]
theorem tri_ps {x : List Int} (h : linkedV triG x = true) (h8 : x.length ≤ 8) : psJ triG false [] x = true := by
 unfold psJ wordsG
 rw [if_neg (by decide), h, if_neg (by decide), decide_eq_true h8]
 unfold keepsG
 rw [jvert_err tri_ok h8 h]; rfl
theorem tri_row0 : rowP triG (psJ triG false []) 0 = [[0], [1], [2]] := by
 show ([[0], [1], [2]] : List (List Int)).filter _ = _
 refine List.filter_eq_self.2 fun x hx => tri_ps ?_ ?_
 ·revert x; decide
 ·revert x; decide
theorem tri_grow {l : List Int} {r : List (List Int)} (h : ((if canonV triG l = true then (rnextV triG l 3).filter (fitsV triG l) else []).map fun v => l ++ [v]) = r) (hr : ∀ x ∈ r, linkedV triG x = true ∧ x.length ≤ 8) : growP triG (psJ triG false []) l = r := by
 unfold growP growL
 rw [grow_comp tri_ok]
 rw [show triG.labels.length = 3 from rfl, h]
 exact List.filter_eq_self.2 fun x hx => tri_ps (hr x hx).1 (hr x hx).2
theorem tri_row1 : rowP triG (psJ triG false []) 1 = [[0, 1], [0, 2], [1, 2]] := by
 show (rowP triG (psJ triG false []) 0).flatMap _ = _
 rw [tri_row0, List.flatMap_cons, List.flatMap_cons, List.flatMap_cons, List.flatMap_nil]
 rw [tri_grow (l := [0]) (r := [[0, 1], [0, 2]]) (by decide) (by decide), tri_grow (l := [1]) (r := [[1, 2]]) (by decide) (by decide), tri_grow (l := [2]) (r := []) (by decide) (by decide)]; rfl
theorem tri_row2 : rowP triG (psJ triG false []) 2 = [[0, 1, 2]] := by
 show (rowP triG (psJ triG false []) 1).flatMap _ = _
 rw [tri_row1, List.flatMap_cons, List.flatMap_cons, List.flatMap_cons, List.flatMap_nil]
 rw [tri_grow (l := [0, 1]) (r := [[0, 1, 2]]) (by decide) (by decide), tri_grow (l := [0, 2]) (r := []) (by decide) (by decide), tri_grow (l := [1, 2]) (r := []) (by decide) (by decide)]; rfl
theorem tri_rows : rowsP triG (psJ triG false []) 3 = [[[0], [1], [2]], [[0, 1], [0, 2], [1, 2]], [[0, 1, 2]]] := by
 rw [rowsP_full]
 ·show [rowP _ _ 0, rowP _ _ 1, rowP _ _ 2] = _
  rw [tri_row0, tri_row1, tri_row2]
 ·intro k hk
  have : k = 0 ∨ k = 1 ∨ k = 2 := by omega
  rcases this with rfl | rfl | rfl
  ·rw [tri_row0]; simp
  ·rw [tri_row1]; simp
  ·rw [tri_row2]; simp
end Go.Proofs.YtjejpdfldmempaaGreatDoor
end
section
namespace Go.Proofs.YtjejpdfldmempaaGreatDoor
open Go.Sx Go.RowKit Go.Reg Go.Gr
set_option maxRecDepth 100000
theorem ops_len {O : List Nat} {w : World} {l : List Opp} {v : Value} (h : Rep O w (dOs l) v) : l.length ≤ 9223372036854775807 := by
 have := rep_len h
 rw [List.length_map] at this
 unfold maxLen at this
 omega
theorem Pure.len5 {f : FuncId} {a b c d : Da} {l : List Opp} {xs : List Da} {Q : Da → Prop} (h : l.length ≤ 9223372036854775807 → Sx.Pure C1 f (a :: b :: c :: d :: dOs l :: xs) Q) : Sx.Pure C1 f (a :: b :: c :: d :: dOs l :: xs) Q :=
 Sx.Pure.assume (fun O w us hr => by
  obtain ⟨_, _, rfl, _, h1⟩ := reps_inv hr
  obtain ⟨_, _, rfl, _, h2⟩ := reps_inv h1
  obtain ⟨_, _, rfl, _, h3⟩ := reps_inv h2
  obtain ⟨_, _, rfl, _, h4⟩ := reps_inv h3
  obtain ⟨_, _, rfl, h5, _⟩ := reps_inv h4
  exact ops_len h5) h
def dJr (G : Gr) (e : Bool) (d : Int) (l : List Opp) : Da := .agg [dM G.labels G.edges, .bool e, .int .i64 d, dOs l]
def madeN : Da := .tuple [.agg [.nilp, .bool false, .int .i64 0, .nils], .agg [.agg [.nils, .nils], .bool false, .int .i64 0, .nils], .bool false]
def pl_l8m : List (Nat × Plan) := [(5, .split 6 11 (.leaf [0, 0, 0, 0, 2, 0, 1, 0, 0, 0, 0, 3, 3, 0] [0, 1, 2, 3, 7, 8, 9, 6, 10, 4, 5, 11, 12, 13] [0, 0, 0, 0, 8, 31, 0, 0, 0, 0, 960, 127, 4095, 8191]) (.leaf [0, 0, 0, 0, 2, 0, 1, 0, 0, 0, 0, 3, 3, 0] [0, 1, 2, 3, 7, 8, 9, 4, 5, 11, 6, 10, 12, 13] [0, 0, 0, 0, 8, 31, 2111, 0, 0, 0, 3071, 63, 4095, 8191]))]
def G_l8m : List FuncId := [72, 73, 23]
theorem cok_l8m : codeOk Tryz.prog G_l8m pl_l8m (Tryz.f22.body.getD .skip) = true := by kernel_rfl
theorem run_l8m (vs : Array Value) (w : World) : (callFunc 22 vs).run C1.P w = .ok (.enter 22 vs) w := by kernel_rfl
theorem lmade_pure (labels : List Int) (edges : List Edg) (e : Bool) (d : Int) (p : List Opp) : Pure C1 22 [dIs labels, dEs edges, .bool e, .int .i64 d, dOs p] (fun y => y = madeN ∨ ∃ G, y = .tuple [dJ G e d p, dJr G e d p, .bool true] ∧ JobOk G e d p) := by
 refine Pure.len5 fun hpl => ?_
 have hll : (labels.map dI).length = labels.length := List.length_map _
 have hel : (edges.map dE).length = edges.length := List.length_map _
 have hmd := made_pure labels edges
 have hrr := rright17_pure p hpl
 refine pure_of c1_ok (pl := pl_l8m) (G := G_l8m) Tryz.func22 rfl Tryz.ntmps22 run_l8m cok_l8m (by simp) ?_
 (conv => whnf)
 rcases made_case labels edges with hy | ⟨G, hy, hG, _, hm, hGe, _, hlen⟩
 ·rw [hy] at hmd
  (repeat' ((first | refine ord_ok ?_ ?_ | refine call_eq rfl hmd ?_ | refine ify ?_ | refine ifn ?_ | refine i6 ?_ | refine ati ?_ | refine mst ?_ | refine rmd ?_ | refine ibo (fun _ => ?_) (fun _ => ?_) | exact oend) <;> conv => whnf))
  refine call_pure rfl hrr ?_
  rintro y (⟨rfl, hl16, hlok⟩ | ⟨c, i, hc, rfl⟩)
  ·((conv => whnf); repeat' ((first | refine odw ?_ | refine ify ?_ | refine ifn ?_ | refine i6 ?_ | refine ati ?_ | refine mst ?_ | refine rmd ?_ | refine ibo (fun _ => ?_) (fun _ => ?_)) <;> conv => whnf))
   exact .inl rfl
  ·((conv => whnf); repeat' ((first | refine odw ?_ | refine ify ?_ | refine ifn ?_ | refine i6 ?_ | refine ati ?_ | refine mst ?_ | refine rmd ?_ | refine ibo (fun _ => ?_) (fun _ => ?_)) <;> conv => whnf))
   exact .inl rfl
 ·rw [hy] at hmd
  have hGl : G.labels = labels := by rw [hGe]
  (repeat' ((first | refine ord_ok ?_ ?_ | refine call_eq rfl hmd ?_ | refine ify ?_ | refine ifn ?_ | refine i6 ?_ | refine ati ?_ | refine mst ?_ | refine rmd ?_ | refine ibo (fun _ => ?_) (fun _ => ?_) | exact oend) <;> conv => whnf))
  refine call_pure rfl hrr ?_
  rintro y (⟨rfl, hl16, hlok⟩ | ⟨c, i, hc, rfl⟩)
  ·have hof := law17of_pure p (by omega)
   by_cases h7 : 7 < labels.length
   ·((conv => whnf); repeat' ((first | refine odw ?_ | refine ify ?_ | refine ifn ?_ | refine i6 ?_ | refine ati ?_ | refine mst ?_ | refine rmd ?_ | refine ibo (fun _ => ?_) (fun _ => ?_)) <;> conv => whnf))
    exact .inl rfl
   by_cases hd : 1 ≤ d ∧ d ≤ 8
   ·cases e with
    | true =>
      by_cases h8 : 8 < edges.length
      ·((conv => whnf); repeat' ((first | refine odw ?_ | refine ify ?_ | refine ifn ?_ | refine i6 ?_ | refine ati ?_ | refine mst ?_ | refine rmd ?_ | refine ibo (fun _ => ?_) (fun _ => ?_)) <;> conv => whnf))
       exact .inl rfl
      ·(conv => whnf)
       (repeat' ((first | refine ord_ok ?_ ?_ | refine call_eq rfl hof ?_ | refine ify ?_ | refine ifn ?_ | refine i6 ?_ | refine ati ?_ | refine mst ?_ | refine rmd ?_ | refine ibo (fun _ => ?_) (fun _ => ?_) | exact oend) <;> conv => whnf))
       exact .inr ⟨G, rfl, hG, by rw [hGl]; omega, hm, fun _ => by omega, hd, hl16, hlok⟩
    | false =>
      by_cases h8 : 8 < edges.length
      ·(conv => whnf)
       (repeat' ((first | refine ord_ok ?_ ?_ | refine call_eq rfl hof ?_ | refine ify ?_ | refine ifn ?_ | refine i6 ?_ | refine ati ?_ | refine mst ?_ | refine rmd ?_ | refine ibo (fun _ => ?_) (fun _ => ?_) | exact oend) <;> conv => whnf))
       exact .inr ⟨G, rfl, hG, by rw [hGl]; omega, hm, fun h => (by cases h), hd, hl16, hlok⟩
      ·(conv => whnf)
       (repeat' ((first | refine ord_ok ?_ ?_ | refine call_eq rfl hof ?_ | refine ify ?_ | refine ifn ?_ | refine i6 ?_ | refine ati ?_ | refine mst ?_ | refine rmd ?_ | refine ibo (fun _ => ?_) (fun _ => ?_) | exact oend) <;> conv => whnf))
       exact .inr ⟨G, rfl, hG, by rw [hGl]; omega, hm, fun h => (by cases h), hd, hl16, hlok⟩
   ·by_cases h8 : 8 < edges.length <;> cases e <;> ((conv => whnf); repeat' ((first | refine odw ?_ | refine ify ?_ | refine ifn ?_ | refine i6 ?_ | refine ati ?_ | refine mst ?_ | refine rmd ?_ | refine ibo (fun _ => ?_) (fun _ => ?_)) <;> conv => whnf))
    all_goals exact .inl rfl
  ·by_cases h7 : 7 < labels.length <;> by_cases h8 : 8 < edges.length <;> cases e <;> ((conv => whnf); repeat' ((first | refine odw ?_ | refine ify ?_ | refine ifn ?_ | refine i6 ?_ | refine ati ?_ | refine mst ?_ | refine rmd ?_ | refine ibo (fun _ => ?_) (fun _ => ?_)) <;> conv => whnf))
   all_goals exact .inl rfl
def pl_l8s : List (Nat × Plan) := [(6, .leaf [0, 0, 0, 1, 0, 0, 0, 1, 2, 0] [0, 1, 2, 4, 5, 6, 3, 7, 8, 9] [0, 0, 3, 7, 0, 0, 48, 112, 255, 511])]
def G_l8s : List FuncId := [28]
theorem cok_l8s : codeOk Tryz.prog G_l8s pl_l8s (Tryz.f30.body.getD .skip) = true := by kernel_rfl
theorem run_l8s (vs : Array Value) (w : World) : (callFunc 30 vs).run C1.P w = .ok (.enter 30 vs) w := by kernel_rfl
theorem lsame_pure (P : List (List Int)) (hm : P.length ≤ 9000000000) : Pure C1 30 [dLs P, dLs P] (fun y => y = .bool true) := by
 have hl : (P.map dIs).length = P.length := List.length_map _
 refine pure_of c1_ok (pl := pl_l8s) (G := G_l8s) Tryz.func30 rfl Tryz.ntmps30 run_l8s cok_l8s (by simp) ?_
 ((conv => whnf); repeat' ((first | refine odw ?_ | refine ify ?_ | refine ifn ?_ | refine i6 ?_ | refine ati ?_ | refine mst ?_ | refine rmd ?_ | refine ibo (fun _ => ?_) (fun _ => ?_)) <;> conv => whnf))
 refine loop_lo (ι := Nat) (fun i => i ≤ P.length) (fun i => [(5, .d (.int .i64 i)), (1, .d (dLs P)), (0, .d (dLs P))]) (fun _ => []) (fun i => P.length - i) 0 (fun _ => rfl) (Nat.zero_le _) (.refl _ _) ⟨rfl, rfl, rfl, trivial⟩ trivial ?_
 intro i hi
 refine sxCode_sound c1_ok (G := G_l8s) (pl := pl_l8s) _ _ _ _ (by kernel_rfl) ?_
 by_cases hlt : i < P.length
 ·have hx := List.getElem?_eq_getElem hlt
  generalize P[i] = x at hx
  have hxd : (P.map dIs)[i]? = some (dIs x) := by rw [List.getElem?_map, hx]; rfl
  have hs := same_pure x x
  rw [decide_eq_true rfl] at hs
  (conv => whnf)
  (repeat' ((first | refine ord_ok ?_ ?_ | refine at_da hxd rfl ?_ | refine call_eq rfl hs ?_ | refine ify ?_ | refine ifn ?_ | refine i6 ?_ | refine ati ?_ | refine mst ?_ | refine rmd ?_ | refine ibo (fun _ => ?_) (fun _ => ?_) | exact oend) <;> conv => whnf))
  exact ⟨i + 1, _, _, hlt, .refl _ _, ⟨rfl, rfl, rfl, trivial⟩, trivial, by omega⟩
 ·((conv => whnf); repeat' ((first | refine odw ?_ | refine ify ?_ | refine ifn ?_ | refine i6 ?_ | refine ati ?_ | refine mst ?_ | refine rmd ?_ | refine ibo (fun _ => ?_) (fun _ => ?_)) <;> conv => whnf))
  exact rfl
theorem lwords_nil (b : Bool) (d : Int) (ds : List Da) : Pure C1 75 [.agg [.nilp, .bool b, .int .i64 d, .list 2 ds]] (fun y => y = .tuple [.nilp, dF 10 0 graphS]) := by
 refine pure_of c1_ok (pl := pl_lww) (G := G_lww) Tryz.func75 rfl Tryz.ntmps75 run_lww cok_lww (by simp) ?_
 (conv => whnf)
 (repeat' ((first | refine ord_ok ?_ ?_ | refine call_eq rfl (fnew_pure 10 0 graphS) ?_ | refine ify ?_ | refine ifn ?_ | refine i6 ?_ | refine ati ?_ | refine mst ?_ | refine rmd ?_ | refine ibo (fun _ => ?_) (fun _ => ?_) | exact oend) <;> conv => whnf))
 exact rfl
theorem lright_of {G : Da} {b : Bool} {d : Int} {ds : List Da} {x : Da} (hG : G = .nilp ∨ ∃ g, G = dG g) (h : Pure C1 75 [.agg [G, .bool b, .int .i64 d, .list 2 ds]] (fun y => y = .tuple [.nilp, x])) (hx : (∃ c a s, x = dF c a s) ∨ ∃ z c a s, x = dS z (dF c a s)) : Pure C1 25 [.agg [G, .bool b, .int .i64 d, .list 2 ds]] (fun y => y = x) := by
 rcases hG with rfl | ⟨g, rfl⟩ <;> rcases hx with ⟨c, a, s, rfl⟩ | ⟨z, c, a, s, rfl⟩
 all_goals
  refine pure_of c1_ok (pl := pl_lwr) (G := G_lwr) Tryz.func25 rfl Tryz.ntmps25 run_lwr cok_lwr (by simp) ?_
  (conv => whnf)
  (repeat' ((first | refine ord_ok ?_ ?_ | refine call_eq rfl h ?_ | refine ify ?_ | refine ifn ?_ | refine i6 ?_ | refine ati ?_ | refine mst ?_ | refine rmd ?_ | refine ibo (fun _ => ?_) (fun _ => ?_) | exact oend) <;> conv => whnf))
  exact rfl
theorem tri_made : madeY [0, 0, 0] [⟨0, 2⟩, ⟨1, 2⟩, ⟨0, 1⟩] = .tuple [dG triG, dM triG.labels triG.edges, .bool true] := by
 have h1 : newErr [0, 0, 0] [⟨0, 2⟩, ⟨1, 2⟩, ⟨0, 1⟩] = none := by decide
 have h2 : canon [⟨0, 2⟩, ⟨1, 2⟩, ⟨0, 1⟩] = triG.edges := (canon_eq (by decide) (by decide) (by decide)).symm
 unfold madeY madeG
 rw [if_pos ⟨by decide, by decide⟩, h1]
 simp only [h2]
 rfl
theorem tri_job : JobOk triG false 3 [] := ⟨tri_ok, by decide, by decide, fun h => (by cases h), by omega, by decide, fun o ho => by cases ho⟩
def pl_lal8 : List (Nat × Plan) := []
def G_lal8 : List FuncId := [72]
theorem cok_lal8 : codeOk Tryz.prog G_lal8 pl_lal8 (Tryz.f21.body.getD .skip) = true := by kernel_rfl
theorem run_lal8 (vs : Array Value) (w : World) : (callFunc 21 vs).run C1.P w = .ok (.enter 21 vs) w := by kernel_rfl
theorem alive18_pure : Pure C1 21 [] (fun y => y = .bool true) := by
 have hm := made_pure [0, 0, 0] [⟨0, 2⟩, ⟨1, 2⟩, ⟨0, 1⟩]
 rw [tri_made] at hm
 have ha : Pure C1 26 [.agg [dG triG, .bool false, .int .i64 3, .nils], .int .i64 100] (fun z => z = .tuple [.list 1 ([[[0], [1], [2]], [[0, 1], [0, 2], [1, 2]], [[0, 1, 2]]].map dLs), .nili]) := by
  refine Sx.Pure.lax (.cons (.agg (.cons (.refl _) (.cons (.refl _) (.cons (.refl _) (.cons (.nils 2) .nil))))) (.cons (.refl _) .nil)) ?_
  have := all_pure tri_job 100
  rw [show wordsG triG false = triG from rfl] at this
  have hs : sumP triG (psJ triG false []) 3 = 7 := by
   unfold sumP
   show ((rowP _ _ 0).length + ((rowP _ _ 1).length + ((rowP _ _ 2).length + 0))) = 7
   rw [tri_row0, tri_row1, tri_row2]; rfl
  rw [show allY triG (psJ triG false []) (3 : Int).toNat 100 = .tuple [.list 1 ([[[0], [1], [2]], [[0, 1], [0, 2], [1, 2]], [[0, 1, 2]]].map dLs), .nili] by
   show allY triG (psJ triG false []) 3 100 = _
   unfold allY
   rw [hs, if_pos (by decide), tri_rows]] at this
  exact this
 have hr : Pure C1 25 [.agg [.nilp, .bool false, .int .i64 0, .nils]] (fun y => y = dF 10 0 graphS) :=
  Sx.Pure.lax (.cons (.agg (.cons (.refl _) (.cons (.refl _) (.cons (.refl _) (.cons (.nils 2) .nil))))) .nil) (lright_of (.inl rfl) (lwords_nil false 0 []) (.inl ⟨_, _, _, rfl⟩))
 have hc := code_pure 10 0 graphS
 have g0 : (List.map dLs [[[0], [1], [2]], [[0, 1], [0, 2], [1, 2]], [[0, 1, 2]]])[0]? = some (dLs [[0], [1], [2]]) := rfl
 have g1 : (List.map dLs [[[0], [1], [2]], [[0, 1], [0, 2], [1, 2]], [[0, 1, 2]]])[1]? = some (dLs [[0, 1], [0, 2], [1, 2]]) := rfl
 have g2 : (List.map dLs [[[0], [1], [2]], [[0, 1], [0, 2], [1, 2]], [[0, 1, 2]]])[2]? = some (dLs [[0, 1, 2]]) := rfl
 have l0 : (List.map dLs [[[0], [1], [2]], [[0, 1], [0, 2], [1, 2]], [[0, 1, 2]]]).length = 3 := rfl
 have l1 : (List.map dIs [[0], [1], [2]]).length = 3 := rfl
 have l2 : (List.map dIs [[0, 1], [0, 2], [1, 2]]).length = 3 := rfl
 have l3 : (List.map dIs [[0, 1, 2]]).length = 1 := rfl
 refine pure_of c1_ok (pl := pl_lal8) (G := G_lal8) Tryz.func21 rfl Tryz.ntmps21 run_lal8 cok_lal8 (by simp) ?_
 (conv => whnf)
 (repeat' ((first | refine ord_ok ?_ ?_ | refine call_eq (xs := [dIs [0, 0, 0], dEs [⟨0, 2⟩, ⟨1, 2⟩, ⟨0, 1⟩]]) rfl hm ?_ | refine call_frz 7 rfl ?_ | refine call_frz 11 rfl ?_ | refine call_eq rfl ha ?_ | refine call_eq rfl hr ?_ | refine call_eq rfl hc ?_ | refine at_da g0 rfl ?_ | refine at_da g1 rfl ?_ | refine at_da g2 rfl ?_ | refine ify ?_ | refine ifn ?_ | refine i6 ?_ | refine ati ?_ | refine mst ?_ | refine rmd ?_ | refine ibo (fun _ => ?_) (fun _ => ?_) | exact oend) <;> conv => whnf))
 exact rfl
end Go.Proofs.YtjejpdfldmempaaGreatDoor
end
section
namespace Go.Proofs.YtjejpdfldmempaaGreatDoor
open Go.Sx Go.RowKit Go.Reg Go.Gr
set_option maxRecDepth 100000
theorem hasR_E {n : Nat} {p : Pt} (hp : PtOk n p) (a b : Int) : hasR p.edges a b = hasE p.edges a b := by
 rw [Bool.eq_iff_iff]
 unfold hasR hasE
 rw [List.any_eq_true, decide_eq_true_eq]
 constructor
 ·rintro ⟨e, he, h⟩
  have h := of_decide_eq_true h
  have h2 := hp.edge e he
  have : turn ⟨a, b⟩ = e := by
   obtain ⟨x, y⟩ := e
   simp only at h h2
   unfold turn
   simp only [Edg.mk.injEq]
   omega
  rw [this]; exact he
 ·intro h
  refine ⟨_, h, decide_eq_true ?_⟩
  unfold turn
  simp only
  omega
def cntA (p : Pt) (a b : Nat) : Nat := (List.range b).countP fun b => decide (a ≠ b) && hasE p.edges a b
theorem cntA_step (p : Pt) (a b : Nat) : cntA p a (b + 1) = cntA p a b + (if (decide (a ≠ b) && hasE p.edges a b) = true then 1 else 0) := by
 unfold cntA
 rw [List.range_succ, List.countP_append, List.countP_cons, List.countP_nil]
 omega
theorem cntA_le (p : Pt) (a b : Nat) : cntA p a b ≤ b := by
 unfold cntA
 have := List.countP_le_length (p := fun b : Nat => decide (a ≠ b) && hasE p.edges a b) (l := List.range b)
 rwa [List.length_range] at this
def refC (o : Opp) (p : Pt) (a b c : Nat) : Bool := !(decide (o.kind = 8) && hasE p.edges a b && hasE p.edges a c && hasE p.edges b c)
theorem all_no {n k : Nat} {f : Nat → Bool} (hk : k < n) (h : f k = false) : (List.range n).all f = false := by
 rw [List.all_eq_false]
 exact ⟨k, List.mem_range.2 hk, by rw [h]; decide⟩
theorem all_yes {n : Nat} {f : Nat → Bool} (h : ∀ k, k < n → f k = true) : (List.range n).all f = true := by
 rw [List.all_eq_true]
 exact fun k hk => h k (List.mem_range.1 hk)
def pl_rt7 : List (Nat × Plan) := [(11, .leaf [0, 1, 0, 0, 0, 1, 0, 0, 1, 0, 1, 0, 0, 0, 0, 1, 0, 0, 0, 1, 0, 0, 1, 0, 1, 0, 0, 0] [0, 1, 2, 3, 4, 6, 9, 5, 7, 8, 10, 11, 12, 13, 14, 15, 16, 17, 18, 20, 23, 19, 21, 22, 24, 25, 26, 27] [0, 1, 3, 7, 15, 31, 15, 127, 255, 15, 527, 2047, 4095, 8191, 16383, 32767, 65535, 131071, 262143, 524287, 262143, 2097151, 4194303, 262143, 8650751, 33554431, 67108863, 134217727]),
 (20, .leaf [0, 1, 0, 0, 0, 0, 0, 0, 0, 1, 0, 0, 0, 1, 0, 0, 1, 0, 1, 0, 0, 1, 0, 0, 0] [0, 1, 2, 3, 4, 5, 6, 7, 8, 9, 10, 11, 12, 14, 17, 19, 13, 15, 16, 18, 20, 21, 22, 23, 24] [0, 1, 3, 7, 15, 31, 63, 127, 255, 511, 1023, 2047, 4095, 8191, 4095, 32767, 65535, 4095, 135167, 4095, 921599, 1970175, 4194303, 8388607, 16777215])]
def G_rt7 : List FuncId := [183]
theorem cok_rt7 : codeOk Tryz.prog G_rt7 pl_rt7 (Tryz.f122.body.getD .skip) = true := by kernel_rfl
theorem run_rt7 (vs : Array Value) (w : World) : (callFunc 122 vs).run C1.P w = .ok (.enter 122 vs) w := by kernel_rfl
set_option maxHeartbeats 8000000 in
theorem rtest17_pure (o : Opp) (p : Pt) (hp : pErr p = none) (ho : codeO o = 0) : Pure C1 122 [dO o, dPt p] (fun z => z = .bool (refO o p)) := by
 obtain ⟨h8, hPe⟩ := pt_small hp
 have hpo : PtOk p.labels.length p := ⟨rfl, (pErr_none hp).2.1, (pErr_none hp).2.2⟩
 have hll : (p.labels.map dI).length = p.labels.length := List.length_map _
 have hel : (p.edges.map dE).length = p.edges.length := List.length_map _
 have hr := rright_pure p (by omega) (by omega)
 rw [hp] at hr
 have hf := rfault_pure o
 rw [ho] at hf
 have hh : ∀ a b : Int, Pure C1 183 [dPt p, .int .i64 a, .int .i64 b] (fun y => y = .bool (hasE p.edges a b)) := fun a b => by rw [← hasR_E hpo]; exact rhas_pure p a b (by omega)
 have hk8 : o.kind = 1 ∨ o.kind = 2 ∨ o.kind = 3 ∨ o.kind = 4 ∨ o.kind = 5 ∨ o.kind = 6 ∨ o.kind = 7 ∨ o.kind = 8 := by
  unfold codeO at ho
  by_cases h : o.kind < 1 ∨ 8 < o.kind
  ·rw [if_pos h] at ho; cases ho
  ·omega
 by_cases h45 : o.kind = 4 ∧ o.n < (p.labels.length : Int) ∨ o.kind = 5 ∧ o.n < (p.edges.length : Int)
 ·have e : refO o p = false := by
   unfold refO
   rcases h45 with ⟨h1, h2⟩ | ⟨h1, h2⟩
   ·rw [decide_eq_true h1, decide_eq_true h2]; rfl
   ·rw [decide_eq_true h1, decide_eq_true h2]; simp
  refine pure_of c1_ok (pl := pl_rt7) (G := G_rt7) Tryz.func122 rfl Tryz.ntmps122 run_rt7 cok_rt7 (by simp) ?_
  rw [e]
  rcases h45 with ⟨hk, h2⟩ | ⟨hk, h2⟩
  all_goals
   (conv => whnf)
   (repeat' ((first | refine ord_ok ?_ ?_ | refine call_eq rfl hr ?_ | refine call_eq rfl hf ?_ | refine ify ?_ | refine ifn ?_ | refine i6 ?_ | refine ati ?_ | refine mst ?_ | refine rmd ?_ | refine ibo (fun _ => ?_) (fun _ => ?_) | exact oend) <;> conv => whnf))
   exact rfl
 have e : refO o p = (List.range p.labels.length).all (refA o p) := by
  unfold refO
  rw [show (decide (o.kind = 4) && decide (o.n < (p.labels.length : Int))) = false by rw [Bool.and_eq_false_iff, decide_eq_false_iff_not, decide_eq_false_iff_not]; omega, show (decide (o.kind = 5) && decide (o.n < (p.edges.length : Int))) = false by rw [Bool.and_eq_false_iff, decide_eq_false_iff_not, decide_eq_false_iff_not]; omega]
  rfl
 have eA1 : ∀ a, (o.kind = 2 ∧ o.n < labE p a) ∨ (o.kind = 7 ∧ labE p a ≠ o.n) → refA o p a = false := fun a h => by
  unfold refA
  rcases h with ⟨h1, h2⟩ | ⟨h1, h2⟩
  ·rw [decide_eq_true h1, decide_eq_true h2]; rfl
  ·rw [decide_eq_true h1, decide_eq_true h2]; simp
 have eA2 : ∀ a b, b < p.labels.length → refB o p a b = false → refA o p a = false := fun a b hb h => by
  unfold refA
  rw [all_no hb h]; simp
 have eA3 : ∀ a, o.kind = 3 ∧ o.n < (cntA p a p.labels.length : Int) → refA o p a = false := fun a h => by
  unfold refA
  rw [decide_eq_true h.1, show degR p a = cntA p a p.labels.length from rfl, decide_eq_true h.2]; simp
 have eA4 : ∀ a, ¬ ((o.kind = 2 ∧ o.n < labE p a) ∨ (o.kind = 7 ∧ labE p a ≠ o.n)) → (∀ b, b < p.labels.length → refB o p a b = true) → ¬ (o.kind = 3 ∧ o.n < (cntA p a p.labels.length : Int)) → refA o p a = true := fun a h1 h2 h3 => by
  unfold refA
  rw [all_yes h2, show degR p a = cntA p a p.labels.length from rfl, show (decide (o.kind = 2) && decide (o.n < labE p a)) = false by rw [Bool.and_eq_false_iff, decide_eq_false_iff_not, decide_eq_false_iff_not]; omega, show (decide (o.kind = 7) && decide (labE p a ≠ o.n)) = false by rw [Bool.and_eq_false_iff, decide_eq_false_iff_not, decide_eq_false_iff_not]; omega, show (decide (o.kind = 3) && decide (o.n < (cntA p a p.labels.length : Int))) = false by rw [Bool.and_eq_false_iff, decide_eq_false_iff_not, decide_eq_false_iff_not]; omega]
  rfl
 have eB1 : ∀ a b : Nat, a ≠ b → (o.kind = 1 ∧ hasE p.edges a b = false) ∨ (o.kind = 6 ∧ labE p a = labE p b) → refB o p a b = false := fun a b hab h => by
  unfold refB
  rw [decide_eq_false hab]
  rcases h with ⟨h1, h2⟩ | ⟨h1, h2⟩
  ·rw [decide_eq_true h1, h2]; rfl
  ·rw [decide_eq_true h1, decide_eq_true h2]; simp
 have eB2 : ∀ a b c : Nat, a ≠ b → c < p.labels.length → refC o p a b c = false → refB o p a b = false := fun a b c hab hc h => by
  unfold refB
  have this : (List.range p.labels.length).all (fun c => !(decide (o.kind = 8) && hasE p.edges a b && hasE p.edges a c && hasE p.edges b c)) = false := all_no hc h
  rw [decide_eq_false hab, this]; simp
 have eB3 : ∀ a b : Nat, a ≠ b → ¬ ((o.kind = 1 ∧ hasE p.edges a b = false) ∨ (o.kind = 6 ∧ labE p a = labE p b)) → (∀ c, c < p.labels.length → refC o p a b c = true) → refB o p a b = true := fun a b hab h hc => by
  unfold refB
  have h6 : (decide (o.kind = 6) && decide (labE p a = labE p b)) = false := by
   rw [Bool.and_eq_false_iff, decide_eq_false_iff_not, decide_eq_false_iff_not]
   by_cases h6 : o.kind = 6
   ·exact .inr fun hl => h (.inr ⟨h6, hl⟩)
   ·exact .inl h6
  have h1 : (decide (o.kind = 1) && !hasE p.edges a b) = false := by
   by_cases h1 : o.kind = 1
   ·cases hv : hasE p.edges a b with
    | true => simp
    | false => exact absurd (.inl ⟨h1, hv⟩) h
   ·rw [decide_eq_false h1]; rfl
  have this : (List.range p.labels.length).all (fun c => !(decide (o.kind = 8) && hasE p.edges a b && hasE p.edges a c && hasE p.edges b c)) = true := all_yes hc
  rw [decide_eq_false hab, this, h1, h6]
  rfl
 have eB0 : ∀ a, refB o p a a = true := fun a => by unfold refB; rw [decide_eq_true rfl]; rfl
 have hlab : ∀ (a : Nat) (x : Int), p.labels[a]? = some x → labE p a = x := fun a x h => by unfold labE; rw [h]; rfl
 refine pure_of c1_ok (pl := pl_rt7) (G := G_rt7) Tryz.func122 rfl Tryz.ntmps122 run_rt7 cok_rt7 (by simp) ?_
 rw [e]
 rcases hk8 with hk | hk | hk | hk | hk | hk | hk | hk
 all_goals
  (conv => whnf)
  (repeat' ((first | refine ord_ok ?_ ?_ | refine call_eq rfl hr ?_ | refine call_eq rfl hf ?_ | refine ify ?_ | refine ifn ?_ | refine i6 ?_ | refine ati ?_ | refine mst ?_ | refine rmd ?_ | refine ibo (fun _ => ?_) (fun _ => ?_) | exact oend) <;> conv => whnf))
  refine loop_lo (ι := Nat) (fun a => a ≤ p.labels.length ∧ ∀ k, k < a → refA o p k = true) (fun a => [(8, .d (.int .i64 a)), (7, .d (.int .i64 (p.labels.map dI).length)), (3, .own 3), (2, .own 2)]) (fun _ => [(2, .cells 76 [.d (.int .i64 o.kind), .d (.int .i64 o.n)]), (3, .cells 35 [.d (dIs p.labels), .d (dEs p.edges)])]) (fun a => p.labels.length - a) 0 (fun _ => rfl) ⟨Nat.zero_le _, fun k hk => absurd hk (Nat.not_lt_zero _)⟩ (.refl _ _) ⟨rfl, rfl, rfl, rfl, trivial⟩ ⟨rfl, rfl, trivial⟩ ?_
  rintro a ⟨hal, hA⟩
  refine sxCode_sound c1_ok (G := G_rt7) (pl := pl_rt7) _ _ _ _ (by kernel_rfl) ?_
  by_cases ha : a < p.labels.length
  ·have hx := List.getElem?_eq_getElem ha
   generalize p.labels[a] = x at hx
   have hlx := hlab a x hx
   have hxd : (p.labels.map dI)[a]? = some (.int .i64 x) := by rw [List.getElem?_map, hx]; rfl
   have a1 := eA1 a
   have a3 := eA3 a
   have a4 := eA4 a
   rw [hlx] at a1 a4
   by_cases c1 : (o.kind = 2 ∧ o.n < x) ∨ (o.kind = 7 ∧ x ≠ o.n)
   ·rw [all_no ha (a1 c1)]
    first
     | (exfalso; omega)
     | ((conv => whnf)
        (repeat' ((first | refine ord_ok ?_ ?_ | refine at_da hxd rfl ?_ | refine ify ?_ | refine ifn ?_ | refine i6 ?_ | refine ati ?_ | refine mst ?_ | refine rmd ?_ | refine ibo (fun _ => ?_) (fun _ => ?_) | exact oend) <;> conv => whnf))
        exact rfl)
   (conv => whnf)
   (repeat' ((first | refine ord_ok ?_ ?_ | refine at_da hxd rfl ?_ | refine ify ?_ | refine ifn ?_ | refine i6 ?_ | refine ati ?_ | refine mst ?_ | refine rmd ?_ | refine ibo (fun _ => ?_) (fun _ => ?_) | exact oend) <;> conv => whnf))
   refine loop_lo (ι := Nat) (fun b => b ≤ p.labels.length ∧ ∀ k, k < b → refB o p a k = true) (fun b => [(10, .d (.int .i64 b)), (9, .d (.int .i64 (cntA p a b : Nat))), (8, .d (.int .i64 a)), (7, .d (.int .i64 (p.labels.map dI).length)), (3, .own 3), (2, .own 2)]) (fun _ => [(2, .cells 76 [.d (.int .i64 o.kind), .d (.int .i64 o.n)]), (3, .cells 35 [.d (dIs p.labels), .d (dEs p.edges)])]) (fun b => p.labels.length - b) 0 (fun _ => rfl) ⟨Nat.zero_le _, fun k hk => absurd hk (Nat.not_lt_zero _)⟩ (.refl _ _) ⟨rfl, rfl, rfl, rfl, rfl, rfl, trivial⟩ ⟨rfl, rfl, trivial⟩ ?_
   rintro b ⟨hbl, hB⟩
   refine sxCode_sound c1_ok (G := G_rt7) (pl := pl_rt7) _ _ _ _ (by kernel_rfl) ?_
   have hcl := cntA_le p a b
   by_cases hb : b < p.labels.length
   ·have hy := List.getElem?_eq_getElem hb
    generalize p.labels[b] = y at hy
    have hly := hlab b y hy
    have hyd : (p.labels.map dI)[b]? = some (.int .i64 y) := by rw [List.getElem?_map, hy]; rfl
    have hst := cntA_step p a b
    by_cases hab : a = b
    ·rw [decide_eq_false (by omega), Bool.false_and, if_neg (by decide), Nat.add_zero] at hst
     ((conv => whnf); repeat' ((first | refine odw ?_ | refine ify ?_ | refine ifn ?_ | refine i6 ?_ | refine ati ?_ | refine mst ?_ | refine rmd ?_ | refine ibo (fun _ => ?_) (fun _ => ?_)) <;> conv => whnf))
     refine ⟨b + 1, _, _, ⟨hb, fun k hk => ?_⟩, .refl _ _, ⟨rfl, by rw [hst]; rfl, rfl, rfl, rfl, rfl, trivial⟩, ⟨rfl, rfl, trivial⟩, by omega⟩
     rcases Nat.lt_or_ge k b with g | g
     ·exact hB k g
     ·rw [show k = b by omega, hab]; exact eB0 b
    ·rw [decide_eq_true hab, Bool.true_and] at hst
     have hE := hh a b
     have b3 := eB3 a b hab
     have b1 := eB1 a b hab
     have b2 := fun c => eB2 a b c hab
     rw [hlx, hly] at b1 b3
     have hba := eA2 a b hb
     have hcE : ∀ c, refC o p a b c = !(decide (o.kind = 8) && hasE p.edges a b && hasE p.edges a c && hasE p.edges b c) := fun c => rfl
     generalize refC o p a b = C at b2 b3 hcE
     cases hv : hasE p.edges a b with
     | true =>
       rw [hv] at hE
       rw [hv, if_pos rfl] at hst
       by_cases c2 : o.kind = 6 ∧ x = y
       ·rw [all_no ha (hba (b1 (.inr c2)))]
        first
         | (exfalso; omega)
         | ((conv => whnf)
            (repeat' ((first | refine ord_ok ?_ ?_ | refine at_da hxd rfl ?_ | refine at_da hyd rfl ?_ | refine call_eq rfl hE ?_ | refine ify ?_ | refine ifn ?_ | refine i6 ?_ | refine ati ?_ | refine mst ?_ | refine rmd ?_ | refine ibo (fun _ => ?_) (fun _ => ?_) | exact oend) <;> conv => whnf))
            exact rfl)
       (conv => whnf)
       (repeat' ((first | refine ord_ok ?_ ?_ | refine at_da hxd rfl ?_ | refine at_da hyd rfl ?_ | refine call_eq rfl hE ?_ | refine ify ?_ | refine ifn ?_ | refine i6 ?_ | refine ati ?_ | refine mst ?_ | refine rmd ?_ | refine ibo (fun _ => ?_) (fun _ => ?_) | exact oend) <;> conv => whnf))
       refine loop_lo (ι := Nat) (fun c => c ≤ p.labels.length ∧ ∀ k, k < c → C k = true) (fun c => [(12, .d (.int .i64 c)), (11, .d (.bool true)), (10, .d (.int .i64 b)), (9, .d (.int .i64 (cntA p a (b + 1) : Nat))), (8, .d (.int .i64 a)), (7, .d (.int .i64 (p.labels.map dI).length)), (3, .own 3), (2, .own 2)]) (fun _ => [(2, .cells 76 [.d (.int .i64 o.kind), .d (.int .i64 o.n)]), (3, .cells 35 [.d (dIs p.labels), .d (dEs p.edges)])]) (fun c => p.labels.length - c) 0 (fun _ => rfl) ⟨Nat.zero_le _, fun k hk => absurd hk (Nat.not_lt_zero _)⟩ (.refl _ _) ⟨rfl, rfl, rfl, by rw [hst]; rfl, rfl, rfl, rfl, rfl, trivial⟩ ⟨rfl, rfl, trivial⟩ ?_
       rintro c ⟨hcl2, hC⟩
       refine sxCode_sound c1_ok (G := G_rt7) (pl := pl_rt7) _ _ _ _ (by kernel_rfl) ?_
       by_cases hc : c < p.labels.length
       ·have h1 := hh a c
        have h2 := hh b c
        have hcc := hcE c
        have hstep : C c = true → ∀ k, k < c + 1 → C k = true := fun h k hk => by
         rcases Nat.lt_or_ge k c with g | g
         ·exact hC k g
         ·rw [show k = c by omega]; exact h
        cases hw : hasE p.edges a c <;> cases hz : hasE p.edges b c <;> rw [hw] at h1 <;> rw [hz] at h2 <;> rw [hv, hw, hz] at hcc
        all_goals
         first
          | (have hct : C c = true := by rw [hcc, hk]; rfl
             (conv => whnf)
             (repeat' ((first | refine ord_ok ?_ ?_ | refine call_eq rfl h1 ?_ | refine call_eq rfl h2 ?_ | refine ify ?_ | refine ifn ?_ | refine i6 ?_ | refine ati ?_ | refine mst ?_ | refine rmd ?_ | refine ibo (fun _ => ?_) (fun _ => ?_) | exact oend) <;> conv => whnf))
             exact ⟨c + 1, _, _, ⟨hc, hstep hct⟩, .refl _ _, ⟨rfl, rfl, rfl, rfl, rfl, rfl, rfl, rfl, trivial⟩, ⟨rfl, rfl, trivial⟩, by omega⟩)
          | (have hcf : C c = false := by rw [hcc, hk]; rfl
             rw [all_no ha (hba (b2 c hc hcf))]
             (conv => whnf)
             (repeat' ((first | refine ord_ok ?_ ?_ | refine call_eq rfl h1 ?_ | refine call_eq rfl h2 ?_ | refine ify ?_ | refine ifn ?_ | refine i6 ?_ | refine ati ?_ | refine mst ?_ | refine rmd ?_ | refine ibo (fun _ => ?_) (fun _ => ?_) | exact oend) <;> conv => whnf))
             exact rfl)
       ·have hBb := b3 (fun h => c2 (h.elim (fun h => by rw [hv] at h; cases h.2) id)) fun c' hc' => hC c' (by omega)
        ((conv => whnf); repeat' ((first | refine odw ?_ | refine ify ?_ | refine ifn ?_ | refine i6 ?_ | refine ati ?_ | refine mst ?_ | refine rmd ?_ | refine ibo (fun _ => ?_) (fun _ => ?_)) <;> conv => whnf))
        refine ⟨b + 1, _, _, ⟨hb, fun k hk => ?_⟩, .refl _ _, ⟨rfl, rfl, rfl, rfl, rfl, rfl, trivial⟩, ⟨rfl, rfl, trivial⟩, by omega⟩
        rcases Nat.lt_or_ge k b with g | g
        ·exact hB k g
        ·rw [show k = b by omega]; exact hBb
     | false =>
       rw [hv] at hE
       rw [hv, if_neg (by decide), Nat.add_zero] at hst
       by_cases c2 : o.kind = 1 ∨ (o.kind = 6 ∧ x = y)
       ·rw [all_no ha (hba (b1 ((c2.imp (fun h => ⟨h, hv⟩) id))))]
        first
         | (exfalso; omega)
         | ((conv => whnf)
            (repeat' ((first | refine ord_ok ?_ ?_ | refine at_da hxd rfl ?_ | refine at_da hyd rfl ?_ | refine call_eq rfl hE ?_ | refine ify ?_ | refine ifn ?_ | refine i6 ?_ | refine ati ?_ | refine mst ?_ | refine rmd ?_ | refine ibo (fun _ => ?_) (fun _ => ?_) | exact oend) <;> conv => whnf))
            exact rfl)
       first
        | (exfalso; omega)
        | ((conv => whnf)
           (repeat' ((first | refine ord_ok ?_ ?_ | refine at_da hxd rfl ?_ | refine at_da hyd rfl ?_ | refine call_eq rfl hE ?_ | refine ify ?_ | refine ifn ?_ | refine i6 ?_ | refine ati ?_ | refine mst ?_ | refine rmd ?_ | refine ibo (fun _ => ?_) (fun _ => ?_) | exact oend) <;> conv => whnf))
           refine loop_lo (ι := Nat) (fun c => c ≤ p.labels.length ∧ ∀ k, k < c → C k = true) (fun c => [(12, .d (.int .i64 c)), (11, .d (.bool false)), (10, .d (.int .i64 b)), (9, .d (.int .i64 (cntA p a (b + 1) : Nat))), (8, .d (.int .i64 a)), (7, .d (.int .i64 (p.labels.map dI).length)), (3, .own 3), (2, .own 2)]) (fun _ => [(2, .cells 76 [.d (.int .i64 o.kind), .d (.int .i64 o.n)]), (3, .cells 35 [.d (dIs p.labels), .d (dEs p.edges)])]) (fun c => p.labels.length - c) 0 (fun _ => rfl) ⟨Nat.zero_le _, fun k hk => absurd hk (Nat.not_lt_zero _)⟩ (.refl _ _) ⟨rfl, rfl, rfl, by rw [hst]; rfl, rfl, rfl, rfl, rfl, trivial⟩ ⟨rfl, rfl, trivial⟩ ?_
           rintro c ⟨hcl2, hC⟩
           refine sxCode_sound c1_ok (G := G_rt7) (pl := pl_rt7) _ _ _ _ (by kernel_rfl) ?_
           by_cases hc : c < p.labels.length
           ·have h1 := hh a c
            have h2 := hh b c
            have hcc := hcE c
            have hstep : C c = true → ∀ k, k < c + 1 → C k = true := fun h k hk => by
             rcases Nat.lt_or_ge k c with g | g
             ·exact hC k g
             ·rw [show k = c by omega]; exact h
            cases hw : hasE p.edges a c <;> cases hz : hasE p.edges b c <;> rw [hw] at h1 <;> rw [hz] at h2 <;> rw [hv, hw, hz] at hcc
            all_goals
             first
              | (have hct : C c = true := by rw [hcc, hk]; rfl
                 (conv => whnf)
                 (repeat' ((first | refine ord_ok ?_ ?_ | refine call_eq rfl h1 ?_ | refine call_eq rfl h2 ?_ | refine ify ?_ | refine ifn ?_ | refine i6 ?_ | refine ati ?_ | refine mst ?_ | refine rmd ?_ | refine ibo (fun _ => ?_) (fun _ => ?_) | exact oend) <;> conv => whnf))
                 exact ⟨c + 1, _, _, ⟨hc, hstep hct⟩, .refl _ _, ⟨rfl, rfl, rfl, rfl, rfl, rfl, rfl, rfl, trivial⟩, ⟨rfl, rfl, trivial⟩, by omega⟩)
              | (have hcf : C c = false := by rw [hcc, hk]; rfl
                 rw [all_no ha (hba (b2 c hc hcf))]
                 (conv => whnf)
                 (repeat' ((first | refine ord_ok ?_ ?_ | refine call_eq rfl h1 ?_ | refine call_eq rfl h2 ?_ | refine ify ?_ | refine ifn ?_ | refine i6 ?_ | refine ati ?_ | refine mst ?_ | refine rmd ?_ | refine ibo (fun _ => ?_) (fun _ => ?_) | exact oend) <;> conv => whnf))
                 exact rfl)
           ·have hBb := b3 (fun h => c2 (h.imp (fun h => h.1) id)) fun c' hc' => hC c' (by omega)
            ((conv => whnf); repeat' ((first | refine odw ?_ | refine ify ?_ | refine ifn ?_ | refine i6 ?_ | refine ati ?_ | refine mst ?_ | refine rmd ?_ | refine ibo (fun _ => ?_) (fun _ => ?_)) <;> conv => whnf))
            refine ⟨b + 1, _, _, ⟨hb, fun k hk => ?_⟩, .refl _ _, ⟨rfl, rfl, rfl, rfl, rfl, rfl, trivial⟩, ⟨rfl, rfl, trivial⟩, by omega⟩
            rcases Nat.lt_or_ge k b with g | g
            ·exact hB k g
            ·rw [show k = b by omega]; exact hBb)
   ·have hbe : b = p.labels.length := by omega
    subst hbe
    by_cases c4 : o.kind = 3 ∧ o.n < (cntA p a p.labels.length : Int)
    ·rw [all_no ha (a3 c4)]
     first
      | (exfalso; omega)
      | (((conv => whnf); repeat' ((first | refine odw ?_ | refine ify ?_ | refine ifn ?_ | refine i6 ?_ | refine ati ?_ | refine mst ?_ | refine rmd ?_ | refine ibo (fun _ => ?_) (fun _ => ?_)) <;> conv => whnf))
         exact rfl)
    ·have hAa := a4 c1 hB c4
     ((conv => whnf); repeat' ((first | refine odw ?_ | refine ify ?_ | refine ifn ?_ | refine i6 ?_ | refine ati ?_ | refine mst ?_ | refine rmd ?_ | refine ibo (fun _ => ?_) (fun _ => ?_)) <;> conv => whnf))
     refine ⟨a + 1, _, _, ⟨ha, fun k hk => ?_⟩, .refl _ _, ⟨rfl, rfl, rfl, rfl, trivial⟩, ⟨rfl, rfl, trivial⟩, by omega⟩
     rcases Nat.lt_or_ge k a with g | g
     ·exact hA k g
     ·rw [show k = a by omega]; exact hAa
  ·rw [all_yes fun k hk => hA k (by omega)]
   ((conv => whnf); repeat' ((first | refine odw ?_ | refine ify ?_ | refine ifn ?_ | refine i6 ?_ | refine ati ?_ | refine mst ?_ | refine rmd ?_ | refine ibo (fun _ => ?_) (fun _ => ?_)) <;> conv => whnf))
   exact rfl
end Go.Proofs.YtjejpdfldmempaaGreatDoor
end
section
namespace Go.Proofs.YtjejpdfldmempaaGreatDoor
open Go.Sx Go.RowKit Go.Reg Go.Gr
set_option maxRecDepth 100000
theorem rright17_ok (l : List Opp) (h16 : l.length ≤ 16) (hok : ∀ o ∈ l, codeO o = 0) : Pure C1 73 [dOs l] (fun y => y = .tuple [.int .i64 0, .int .i64 0]) := by
 have hl : (l.map dO).length = l.length := List.length_map _
 refine pure_of c1_ok (pl := pl_rgr) (G := G_rgr) Tryz.func73 rfl Tryz.ntmps73 run_rgr cok_rgr (by simp) ?_
 ((conv => whnf); repeat' ((first | refine odw ?_ | refine ify ?_ | refine ifn ?_ | refine i6 ?_ | refine ati ?_ | refine mst ?_ | refine rmd ?_ | refine ibo (fun _ => ?_) (fun _ => ?_)) <;> conv => whnf))
 refine loop_lo (ι := Nat) (fun i => i ≤ l.length) (fun i => [(4, .d (.int .i64 i)), (0, .d (dOs l))]) (fun _ => []) (fun i => l.length - i) 0 (fun _ => rfl) (Nat.zero_le _) (.refl _ _) ⟨rfl, rfl, trivial⟩ trivial ?_
 intro i hi
 refine sxCode_sound c1_ok (G := G_rgr) (pl := pl_rgr) _ _ _ _ (by kernel_rfl) ?_
 by_cases hlt : i < l.length
 ·have hx := List.getElem?_eq_getElem hlt
  have hy := hok _ (List.getElem_mem hlt)
  generalize l[i] = y at hx hy
  have hxd : (l.map dO)[i]? = some (.agg [.int .i64 y.kind, .int .i64 y.n]) := by rw [List.getElem?_map, hx]; rfl
  have hf := rfault_pure y
  rw [hy] at hf
  (conv => whnf)
  (repeat' ((first | refine ord_ok ?_ ?_ | refine at_da hxd rfl ?_ | refine call_eq rfl hf ?_ | refine ify ?_ | refine ifn ?_ | refine i6 ?_ | refine ati ?_ | refine mst ?_ | refine rmd ?_ | refine ibo (fun _ => ?_) (fun _ => ?_) | exact oend) <;> conv => whnf))
  exact ⟨i + 1, _, _, hlt, .refl _ _, ⟨rfl, rfl, trivial⟩, trivial, by omega⟩
 ·((conv => whnf); repeat' ((first | refine odw ?_ | refine ify ?_ | refine ifn ?_ | refine i6 ?_ | refine ati ?_ | refine mst ?_ | refine rmd ?_ | refine ibo (fun _ => ?_) (fun _ => ?_)) <;> conv => whnf))
  exact rfl
def pl_rk7 : List (Nat × Plan) := [(8, .leaf [0, 0, 0, 1, 1, 2, 0] [0, 1, 2, 3, 4, 5, 6] [0, 0, 3, 7, 0, 31, 63])]
def G_rk7 : List FuncId := [122]
theorem cok_rk7 : codeOk Tryz.prog G_rk7 pl_rk7 (Tryz.f80.body.getD .skip) = true := by kernel_rfl
theorem run_rk7 (vs : Array Value) (w : World) : (callFunc 80 vs).run C1.P w = .ok (.enter 80 vs) w := by kernel_rfl
theorem rkeeps17_pure (l : List Opp) (p : Pt) (hp : pErr p = none) (h16 : l.length ≤ 16) (hok : ∀ o ∈ l, codeO o = 0) : Pure C1 80 [dOs l, dPt p] (fun z => z = .bool (l.all fun o => refO o p)) := by
 obtain ⟨h8, hPe⟩ := pt_small hp
 have hl : (l.map dO).length = l.length := List.length_map _
 have hr := rright_pure p (by omega) (by omega)
 rw [hp] at hr
 have hrl := rright17_ok l h16 hok
 refine pure_of c1_ok (pl := pl_rk7) (G := G_rk7) Tryz.func80 rfl Tryz.ntmps80 run_rk7 cok_rk7 (by simp) ?_
 (conv => whnf)
 (repeat' ((first | refine ord_ok ?_ ?_ | refine call_eq rfl hrl ?_ | refine call_eq rfl hr ?_ | refine ify ?_ | refine ifn ?_ | refine i6 ?_ | refine ati ?_ | refine mst ?_ | refine rmd ?_ | refine ibo (fun _ => ?_) (fun _ => ?_) | exact oend) <;> conv => whnf))
 refine loop_lo (ι := Nat) (fun i => i ≤ l.length ∧ ∀ y ∈ l.take i, refO y p = true) (fun i => [(9, .d (.int .i64 i)), (3, .own 3), (0, .d (dOs l))]) (fun _ => [(3, .cells 35 [.d (dIs p.labels), .d (dEs p.edges)])]) (fun i => l.length - i) 0 (fun _ => rfl) ⟨Nat.zero_le _, by simp⟩ (.refl _ _) ⟨rfl, rfl, rfl, trivial⟩ ⟨rfl, trivial⟩ ?_
 rintro i ⟨hi, hne⟩
 refine sxCode_sound c1_ok (G := G_rk7) (pl := pl_rk7) _ _ _ _ (by kernel_rfl) ?_
 by_cases hlt : i < l.length
 ·have hx := List.getElem?_eq_getElem hlt
  have hm := List.getElem_mem hlt
  have hy := hok _ hm
  generalize l[i] = y at hx hy hm
  have hxd : (l.map dO)[i]? = some (dO y) := by rw [List.getElem?_map, hx]; rfl
  have ht := rtest17_pure y p hp hy
  cases hv : refO y p with
  | false =>
    rw [hv] at ht
    have e : (l.all fun o => refO o p) = false := by rw [List.all_eq_false]; exact ⟨y, hm, by rw [hv]; decide⟩
    rw [e]
    (conv => whnf)
    (repeat' ((first | refine ord_ok ?_ ?_ | refine at_da hxd rfl ?_ | refine call_eq rfl ht ?_ | refine ify ?_ | refine ifn ?_ | refine i6 ?_ | refine ati ?_ | refine mst ?_ | refine rmd ?_ | refine ibo (fun _ => ?_) (fun _ => ?_) | exact oend) <;> conv => whnf))
    exact rfl
  | true =>
    rw [hv] at ht
    (conv => whnf)
    (repeat' ((first | refine ord_ok ?_ ?_ | refine at_da hxd rfl ?_ | refine call_eq rfl ht ?_ | refine ify ?_ | refine ifn ?_ | refine i6 ?_ | refine ati ?_ | refine mst ?_ | refine rmd ?_ | refine ibo (fun _ => ?_) (fun _ => ?_) | exact oend) <;> conv => whnf))
    refine ⟨i + 1, _, _, ⟨hlt, ?_⟩, .refl _ _, ⟨rfl, rfl, rfl, trivial⟩, ⟨rfl, trivial⟩, by omega⟩
    intro z hz
    rw [List.take_add_one, hx] at hz
    rcases List.mem_append.1 hz with hz | hz
    ·exact hne z hz
    ·simp at hz; subst hz; exact hv
 ·have hii : l.take i = l := List.take_of_length_le (by omega)
  rw [hii] at hne
  rw [List.all_eq_true.2 hne]
  ((conv => whnf); repeat' ((first | refine odw ?_ | refine ify ?_ | refine ifn ?_ | refine i6 ?_ | refine ati ?_ | refine mst ?_ | refine rmd ?_ | refine ibo (fun _ => ?_) (fun _ => ?_)) <;> conv => whnf))
  exact rfl
def patP (G : Gr) (e : Bool) (X : List Int) : Pt := if e = true then edgeP G X else vertP G X
def vsP (G : Gr) (e : Bool) (X : List Int) : List Int := if e = true then vertsOf (endsOf G.edges X) else X
section
variable {G : Gr} {e : Bool} {d : Int} {l : List Opp}
def pl_w18 : List (Nat × Plan) := []
def G_w18 : List FuncId := []
theorem cok_w18 : codeOk Tryz.prog G_w18 pl_w18 (Tryz.f31.body.getD .skip) = true := by kernel_rfl
theorem run_w18 (vs : Array Value) (w : World) : (callFunc 31 vs).run C1.P w = .ok (.enter 31 vs) w := by kernel_rfl
theorem rwords18_pure (h : JobOk G e d l) : Pure C1 31 [dJr G e d l] (fun z => z = dM (wordsG G e).labels (wordsG G e).edges) := by
 have hr := rof_pure G.labels G.edges (by have := h.m; omega)
 refine pure_of c1_ok (pl := pl_w18) (G := G_w18) Tryz.func31 rfl Tryz.ntmps31 run_w18 cok_w18 (by simp) ?_
 cases e with
 | true =>
   (conv => whnf)
   (repeat' ((first | refine ord_ok ?_ ?_ | refine call_eq rfl hr ?_ | refine ify ?_ | refine ifn ?_ | refine i6 ?_ | refine ati ?_ | refine mst ?_ | refine rmd ?_ | refine ibo (fun _ => ?_) (fun _ => ?_) | exact oend) <;> conv => whnf))
   exact rfl
 | false =>
   (conv => whnf)
   (repeat' ((first | refine ord_ok ?_ ?_ | refine call_eq rfl hr ?_ | refine ify ?_ | refine ifn ?_ | refine i6 ?_ | refine ati ?_ | refine mst ?_ | refine rmd ?_ | refine ibo (fun _ => ?_) (fun _ => ?_) | exact oend) <;> conv => whnf))
   exact rfl
theorem link_edges (_h : JobOk G true d l) {X : List Int} (hl : linkedV (lnGr G) X = true) : ∀ x ∈ X, 0 ≤ x ∧ x < (G.edges.length : Int) := fun x hx => by
 have := link_range hl x hx
 have e : (lnGr G).labels.length = G.edges.length := List.length_replicate
 omega
def pl_p18 : List (Nat × Plan) := []
def G_p18 : List FuncId := []
theorem cok_p18 : codeOk Tryz.prog G_p18 pl_p18 (Tryz.f36.body.getD .skip) = true := by kernel_rfl
theorem run_p18 (vs : Array Value) (w : World) : (callFunc 36 vs).run C1.P w = .ok (.enter 36 vs) w := by kernel_rfl
theorem rpat18_pure (h : JobOk G e d l) (X : List Int) (hx : X.length ≤ 900) (hl : linkedV (wordsG G e) X = true) : Pure C1 36 [dJr G e d l, dIs X] (fun z => z = .tuple [dPt (patP G e X), dIs (vsP G e X), .bool (decide ((vsP G e X).length ≤ 8))]) := by
 have hm := h.m
 have hXl : (X.map dI).length = X.length := List.length_map _
 have hb : ∀ V : List Int, (V.map dI).length = V.length := fun V => List.length_map _
 refine pure_of c1_ok (pl := pl_p18) (G := G_p18) Tryz.func36 rfl Tryz.ntmps36 run_p18 cok_p18 (by simp) ?_
 cases e with
 | true =>
   have hxe := link_edges h hl
   have hv := rverts_pure G.labels G.edges X (by omega)
   have hlv : (vertsOf (endsOf G.edges X)).length ≤ 1000 := by
    have h1 := endsOf_len G.edges X
    have h2 : ∀ x ∈ vertsOf (endsOf G.edges X), x ∈ upto G.labels.length := fun x hx => by
     obtain ⟨e, he, hxe⟩ := ((vertsOf_spec _).2 x).1 hx
     have := h.ok.edge e (ends_mem e he)
     exact mem_upto.2 (by omega)
    have h3 := nd_len ((vertsOf_spec (endsOf G.edges X)).1.imp fun h => by omega) h2
    rw [upto_len] at h3
    have := h.n
    omega
   have hal := alone_pure G (vertsOf (endsOf G.edges X)) X hlv (by omega) (by omega) (fun x hx => by
    obtain ⟨e, he, hxe⟩ := ((vertsOf_spec _).2 x).1 hx
    have := h.ok.edge e (ends_mem e he)
    omega) hxe
   have hdv := hb (vertsOf (endsOf G.edges X))
   rw [show patP G true X = ⟨(vertsOf (endsOf G.edges X)).map (labelV G), madeE (endsOf G.edges X) (vertsOf (endsOf G.edges X))⟩ from rfl, show vsP G true X = vertsOf (endsOf G.edges X) from rfl]
   generalize vertsOf (endsOf G.edges X) = V at hv hal hdv hlv ⊢
   have hdec : decide (((V.map dI).length : Int) ≤ 8) = decide (V.length ≤ 8) := decide_eq_decide.2 (by omega)
   (conv => whnf)
   (repeat' ((first | refine ord_ok ?_ ?_ | refine call_eq rfl hv ?_ | refine call_eq rfl hal ?_ | refine ify ?_ | refine ifn ?_ | refine i6 ?_ | refine ati ?_ | refine mst ?_ | refine rmd ?_ | refine ibo (fun _ => ?_) (fun _ => ?_) | exact oend) <;> conv => whnf))
   exact congrArg (fun b => Da.tuple [dPt ⟨V.map (labelV G), madeE (endsOf G.edges X) V⟩, dIs V, .bool b]) hdec
 | false =>
   have hw := whole_pure G X (by omega) (by omega) (link_range hl)
   rw [show patP G false X = ⟨X.map (labelV G), madeE G.edges X⟩ from rfl, show vsP G false X = X from rfl]
   have hdec : decide (((X.map dI).length : Int) ≤ 8) = decide (X.length ≤ 8) := decide_eq_decide.2 (by omega)
   (conv => whnf)
   (repeat' ((first | refine ord_ok ?_ ?_ | refine call_eq rfl hw ?_ | refine ify ?_ | refine ifn ?_ | refine i6 ?_ | refine ati ?_ | refine mst ?_ | refine rmd ?_ | refine ibo (fun _ => ?_) (fun _ => ?_) | exact oend) <;> conv => whnf))
   exact congrArg (fun b => Da.tuple [dPt ⟨X.map (labelV G), madeE G.edges X⟩, dIs X, .bool b]) hdec
theorem patP_err (h : JobOk G e d l) {X : List Int} (hl : linkedV (wordsG G e) X = true) (h8 : (vsP G e X).length ≤ 8) : pErr (patP G e X) = none := by
 cases e with
 | true => exact jedge_err h.ok h8
 | false => exact jvert_err h.ok h8 hl
theorem psJ_eq (h : JobOk G e d l) {X : List Int} (hl : linkedV (wordsG G e) X = true) : psJ G e l X = (decide ((vsP G e X).length ≤ 8) && l.all fun o => refO o (patP G e X)) := by
 by_cases h8 : (vsP G e X).length ≤ 8
 ·have hp := patP_err h hl h8
  have hk := keeps_ref (l := l) (p := patP G e X) ⟨rfl, (pErr_none hp).2.1, (pErr_none hp).2.2⟩ h.lok
  rw [hk]
  unfold psJ keepsG
  rw [hl]
  cases e with
  | true =>
    rw [if_pos rfl]
    rw [show patP G true X = edgeP G X from rfl] at hp ⊢
    rw [hp]; rfl
  | false =>
    rw [if_neg (by decide)]
    rw [show patP G false X = vertP G X from rfl] at hp ⊢
    rw [hp]; rfl
 ·rw [decide_eq_false h8, Bool.false_and]
  unfold psJ
  rw [hl]
  cases e with
  | true =>
    rw [if_pos rfl]
    rw [show vsP G true X = vertsOf (endsOf G.edges X) from rfl] at h8
    rw [decide_eq_false h8]; rfl
  | false =>
    rw [if_neg (by decide)]
    rw [show vsP G false X = X from rfl] at h8
    rw [decide_eq_false h8]; rfl
def pl_k18 : List (Nat × Plan) := [(6, .split 4 9 (.leaf [1, 0, 0, 0, 2, 0, 0, 0, 0, 6, 3, 0, 0] [1, 2, 3, 0, 4, 5, 6, 7, 8, 9, 10, 11, 12] [0, 0, 0, 6, 15, 31, 63, 63, 63, 31, 639, 1791, 4095]) (.leaf [1, 0, 0, 0, 2, 0, 0, 0, 0, 6, 3, 0, 0] [1, 2, 3, 0, 9, 4, 5, 6, 7, 8, 10, 11, 12] [0, 0, 0, 6, 527, 543, 575, 575, 575, 0, 639, 1791, 4095]))]
def G_k18 : List FuncId := [36]
theorem cok_k18 : codeOk Tryz.prog G_k18 pl_k18 (Tryz.f32.body.getD .skip) = true := by kernel_rfl
theorem run_k18 (vs : Array Value) (w : World) : (callFunc 32 vs).run C1.P w = .ok (.enter 32 vs) w := by kernel_rfl
theorem rkeeps18_pure (h : JobOk G e d l) (X : List Int) (hx : X.length ≤ 900) : Pure C1 32 [dJr G e d l, dIs X] (fun z => z = .bool (keptL (wordsG G e) (psJ G e l) X)) := by
 have hXl : (X.map dI).length = X.length := List.length_map _
 have hw := rwords18_pure h
 have hok := words_ok h.ok (by have := h.n; omega) h.m e
 have hc := rcanon_pure (wordsG G e) hok X (by omega)
 refine pure_of c1_ok (pl := pl_k18) (G := G_k18) Tryz.func32 rfl Tryz.ntmps32 run_k18 cok_k18 (by simp) ?_
 unfold keptL
 cases hcv : canonV (wordsG G e) X with
 | false =>
   rw [hcv] at hc
   rw [Bool.and_false, Bool.false_and]
   (conv => whnf)
   (repeat' ((first | refine ord_ok ?_ ?_ | refine call_eq rfl hw ?_ | refine call_eq rfl hc ?_ | refine ify ?_ | refine ifn ?_ | refine i6 ?_ | refine ati ?_ | refine mst ?_ | refine rmd ?_ | refine ibo (fun _ => ?_) (fun _ => ?_) | exact oend) <;> conv => whnf))
   exact rfl
 | true =>
   rw [hcv] at hc
   by_cases h0 : X = []
   ·subst h0
    rw [decide_eq_false (by simp)]
    have hd0 : (([] : List Int).map dI).length = 0 := rfl
    (conv => whnf)
    (repeat' ((first | refine ord_ok ?_ ?_ | refine call_eq rfl hw ?_ | refine call_eq rfl hc ?_ | refine ify ?_ | refine ifn ?_ | refine i6 ?_ | refine ati ?_ | refine mst ?_ | refine rmd ?_ | refine ibo (fun _ => ?_) (fun _ => ?_) | exact oend) <;> conv => whnf))
    exact rfl
   have h0l : X.length ≠ 0 := fun e => h0 (List.eq_nil_of_length_eq_zero e)
   rw [decide_eq_true h0]
   (conv => whnf)
   (repeat' ((first | refine ord_ok ?_ ?_ | refine call_eq rfl hw ?_ | refine call_eq rfl hc ?_ | refine ify ?_ | refine ifn ?_ | refine i6 ?_ | refine ati ?_ | refine mst ?_ | refine rmd ?_ | refine ibo (fun _ => ?_) (fun _ => ?_) | exact oend) <;> conv => whnf))
   refine loop_lo (ι := Nat) (fun n => (1 ≤ n ∧ n ≤ X.length + 1) ∧ ∀ k, k + 1 < n → psJ G e l (X.take (k + 1)) = true) (fun n => [(5, .d (.int .i64 n)), (2, .own 2), (1, .d (dIs X))]) (fun _ => [(2, .cells 61 [.d (dM G.labels G.edges), .d (.bool e), .d (.int .i64 d), .d (dOs l)])]) (fun n => X.length + 1 - n) 1 (fun _ => rfl) ⟨by omega, fun k hk => by omega⟩ (.refl _ _) ⟨rfl, rfl, rfl, trivial⟩ ⟨rfl, trivial⟩ ?_
   rintro n ⟨hn, hps⟩
   refine sxCode_sound c1_ok (G := G_k18) (pl := pl_k18) _ _ _ _ (by kernel_rfl) ?_
   by_cases hlt : n ≤ X.length
   ·have hlk : linkedV (wordsG G e) (X.take n) = true := canon_linked hok (canon_take hcv n)
    have hp := rpat18_pure h (X.take n) (by rw [List.length_take]; omega) hlk
    rw [dIs_take] at hp
    have hpe := patP_err h hlk
    have hpq := psJ_eq h hlk
    have hi2 : n ≤ (X.map dI).length := by omega
    have hnn : X.take n = X.take (n - 1 + 1) := by rw [show n - 1 + 1 = n by omega]
    generalize patP G e (X.take n) = p at hp hpe hpq
    generalize vsP G e (X.take n) = V at hp hpe hpq
    by_cases h8 : V.length ≤ 8
    ·have hk := rkeeps17_pure l p (hpe h8) h.l16 h.lok
     rw [decide_eq_true h8] at hp
     rw [decide_eq_true h8, Bool.true_and] at hpq
     cases hv : (l.all fun o => refO o p) with
     | false =>
       rw [hv] at hk hpq
       rw [allP_no (n := n - 1) (by omega) (by rw [← hnn]; exact hpq)]
       (conv => whnf)
       (repeat' ((first | refine ord_ok ?_ ?_ | refine hi_is rfl hi2 ?_ | refine call_eq rfl hp ?_ | refine call_eq rfl hk ?_ | refine ify ?_ | refine ifn ?_ | refine i6 ?_ | refine ati ?_ | refine mst ?_ | refine rmd ?_ | refine ibo (fun _ => ?_) (fun _ => ?_) | exact oend) <;> conv => whnf))
       exact rfl
     | true =>
       rw [hv] at hk hpq
       (conv => whnf)
       (repeat' ((first | refine ord_ok ?_ ?_ | refine hi_is rfl hi2 ?_ | refine call_eq rfl hp ?_ | refine call_eq rfl hk ?_ | refine ify ?_ | refine ifn ?_ | refine i6 ?_ | refine ati ?_ | refine mst ?_ | refine rmd ?_ | refine ibo (fun _ => ?_) (fun _ => ?_) | exact oend) <;> conv => whnf))
       refine ⟨n + 1, _, _, ⟨by omega, fun k hk => ?_⟩, .refl _ _, ⟨rfl, rfl, rfl, trivial⟩, ⟨rfl, trivial⟩, by omega⟩
       rcases Nat.lt_or_ge (k + 1) n with g | g
       ·exact hps k g
       ·rw [show k + 1 = n by omega]; exact hpq
    ·rw [decide_eq_false h8] at hp
     rw [decide_eq_false h8, Bool.false_and] at hpq
     rw [allP_no (n := n - 1) (by omega) (by rw [← hnn]; exact hpq)]
     (conv => whnf)
     (repeat' ((first | refine ord_ok ?_ ?_ | refine hi_is rfl hi2 ?_ | refine call_eq rfl hp ?_ | refine ify ?_ | refine ifn ?_ | refine i6 ?_ | refine ati ?_ | refine mst ?_ | refine rmd ?_ | refine ibo (fun _ => ?_) (fun _ => ?_) | exact oend) <;> conv => whnf))
     exact rfl
   ·rw [allP_yes fun k hk => hps k (by omega)]
    ((conv => whnf); repeat' ((first | refine odw ?_ | refine ify ?_ | refine ifn ?_ | refine i6 ?_ | refine ati ?_ | refine mst ?_ | refine rmd ?_ | refine ibo (fun _ => ?_) (fun _ => ?_)) <;> conv => whnf))
    exact rfl
end
end Go.Proofs.YtjejpdfldmempaaGreatDoor
end
section
namespace Go.Proofs.YtjejpdfldmempaaGreatDoor
open Go.Sx Go.RowKit Go.Reg Go.Gr
set_option maxRecDepth 100000
def pl_b18 : List (Nat × Plan) := [(4, .leaf [0, 0, 0, 1, 0, 0, 0, 1, 0] [0, 1, 2, 4, 5, 6, 3, 7, 8] [0, 0, 3, 7, 0, 0, 48, 112, 255]),
 (5, .leaf [0, 0, 0, 1, 0, 0, 0, 1, 0, 0] [0, 1, 2, 4, 5, 6, 3, 7, 8, 9] [0, 0, 3, 7, 0, 0, 48, 112, 255, 511])]
def G_b18 : List FuncId := []
theorem cok_b18 : codeOk Tryz.prog G_b18 pl_b18 (Tryz.f95.body.getD .skip) = true := by kernel_rfl
theorem run_b18 (vs : Array Value) (w : World) : (callFunc 95 vs).run C1.P w = .ok (.enter 95 vs) w := by kernel_rfl
theorem rbefore_pure (a b : List Int) (hab : a.length = b.length) (hm : a.length ≤ 1000) : Pure C1 95 [dIs a, dIs b] (fun y => y = .bool (befL a b)) := by
 have hal : (a.map dI).length = a.length := List.length_map _
 have hbl : (b.map dI).length = b.length := List.length_map _
 refine pure_of c1_ok (pl := pl_b18) (G := G_b18) Tryz.func95 rfl Tryz.ntmps95 run_b18 cok_b18 (by simp) ?_
 ((conv => whnf); repeat' ((first | refine odw ?_ | refine ify ?_ | refine ifn ?_ | refine i6 ?_ | refine ati ?_ | refine mst ?_ | refine rmd ?_ | refine ibo (fun _ => ?_) (fun _ => ?_)) <;> conv => whnf))
 refine loop_lo (ι := Nat) (fun i => i ≤ a.length ∧ befL (a.drop i) (b.drop i) = befL a b) (fun i => [(5, .d (.int .i64 i)), (1, .d (dIs b)), (0, .d (dIs a))]) (fun _ => []) (fun i => a.length - i) 0 (fun _ => rfl) ⟨Nat.zero_le _, rfl⟩ (.refl _ _) ⟨rfl, rfl, rfl, trivial⟩ trivial ?_
 rintro i ⟨hi, hc⟩
 rw [← hc]
 refine sxCode_sound c1_ok (G := G_b18) (pl := pl_b18) _ _ _ _ (by kernel_rfl) ?_
 by_cases hlt : i < a.length
 ·have hx := List.getElem?_eq_getElem hlt
  have hy := List.getElem?_eq_getElem (show i < b.length by omega)
  rw [List.drop_eq_getElem_cons hlt, List.drop_eq_getElem_cons (show i < b.length by omega)] at hc ⊢
  generalize a[i] = x at hx hc ⊢
  generalize b[i]'(by omega) = y at hy hc ⊢
  have hxd : (a.map dI)[i]? = some (.int .i64 x) := by rw [List.getElem?_map, hx]; rfl
  have hyd : (b.map dI)[i]? = some (.int .i64 y) := by rw [List.getElem?_map, hy]; rfl
  have hbx : befL (x :: a.drop (i + 1)) (y :: b.drop (i + 1)) = (decide (x < y) || (decide (x = y) && befL (a.drop (i + 1)) (b.drop (i + 1)))) := rfl
  by_cases hxy : x = y
  ·have hb2 : befL (a.drop (i + 1)) (b.drop (i + 1)) = befL (x :: a.drop (i + 1)) (y :: b.drop (i + 1)) := by rw [hbx, decide_eq_false (show ¬ x < y by omega), decide_eq_true hxy, Bool.false_or, Bool.true_and]
   (conv => whnf)
   (repeat' ((first | refine ord_ok ?_ ?_ | refine at_da hxd rfl ?_ | refine at_da hyd rfl ?_ | refine ify ?_ | refine ifn ?_ | refine i6 ?_ | refine ati ?_ | refine mst ?_ | refine rmd ?_ | refine ibo (fun _ => ?_) (fun _ => ?_) | exact oend) <;> conv => whnf))
   exact ⟨i + 1, _, _, ⟨hlt, hb2⟩, .refl _ _, ⟨rfl, rfl, rfl, trivial⟩, trivial, by omega⟩
  ·rw [hbx, decide_eq_false hxy, Bool.false_and, Bool.or_false]
   (conv => whnf)
   (repeat' ((first | refine ord_ok ?_ ?_ | refine at_da hxd rfl ?_ | refine at_da hyd rfl ?_ | refine ify ?_ | refine ifn ?_ | refine i6 ?_ | refine ati ?_ | refine mst ?_ | refine rmd ?_ | refine ibo (fun _ => ?_) (fun _ => ?_) | exact oend) <;> conv => whnf))
   exact rfl
 ·have ha : a.drop i = [] := List.drop_eq_nil_of_le (by omega)
  have hb : b.drop i = [] := List.drop_eq_nil_of_le (by omega)
  rw [ha, hb]
  ((conv => whnf); repeat' ((first | refine odw ?_ | refine ify ?_ | refine ifn ?_ | refine i6 ?_ | refine ati ?_ | refine mst ?_ | refine rmd ?_ | refine ibo (fun _ => ?_) (fun _ => ?_)) <;> conv => whnf))
  exact rfl
section
variable {G : Gr} {e : Bool} {d : Int} {l : List Opp}
theorem keptL_list {w : Gr} {ps : List Int → Bool} {X : List Int} (h0 : X ≠ []) (hc : canonV w X = true) : keptL w ps X = allP ps X := by
 unfold keptL
 rw [decide_eq_true h0, hc, Bool.true_and, Bool.true_and]
def pl_l18 : List (Nat × Plan) := [(7, .leaf [1, 0, 0, 0, 1, 2, 0, 0, 0, 0, 0] [1, 2, 3, 0, 4, 5, 6, 7, 8, 9, 10] [0, 0, 0, 6, 14, 31, 63, 127, 127, 255, 1023])]
def G_l18 : List FuncId := [94, 95]
theorem cok_l18 : codeOk Tryz.prog G_l18 pl_l18 (Tryz.f41.body.getD .skip) = true := by kernel_rfl
theorem run_l18 (vs : Array Value) (w : World) : (callFunc 41 vs).run C1.P w = .ok (.enter 41 vs) w := by kernel_rfl
set_option maxHeartbeats 4000000 in
theorem rlevel18_pure (h : JobOk G e d l) (k : Nat) (hk : k ≤ 500) : Pure C1 41 [dJr G e d l, .int .i64 ((k + 1 : Nat) : Int)] (fun z => z = dLs (rowP (wordsG G e) (psJ G e l) k)) := by
 have hw := rwords18_pure h
 have hok := words_ok h.ok (by have := h.n; omega) h.m e
 have hsm := small_len h
 have hst := sets_pure (wordsG G e) (k + 1) hsm (by omega)
 have hkp : ∀ X : List Int, X.length ≤ 900 → Pure C1 32 [dJr G e d l, dIs X] (fun z => z = .bool (keptL (wordsG G e) (psJ G e l) X)) := fun X hX => rkeeps18_pure h X hX
 generalize wordsG G e = w at hw hok hsm hst hkp ⊢
 generalize psJ G e l = ps at hkp ⊢
 refine pure_of c1_ok (pl := pl_l18) (G := G_l18) Tryz.func41 rfl Tryz.ntmps41 run_l18 cok_l18 (by simp) ?_
 (conv => whnf)
 (repeat' ((first | refine ord_ok ?_ ?_ | refine call_eq rfl hw ?_ | refine ify ?_ | refine ifn ?_ | refine i6 ?_ | refine ati ?_ | refine mst ?_ | refine rmd ?_ | refine ibo (fun _ => ?_) (fun _ => ?_) | exact oend) <;> conv => whnf))
 refine call_pure rfl hst ?_
 rintro y ⟨S, rfl, hS⟩
 have hSl : (S.map dIs).length = S.length := List.length_map _
 have hSb : S.length ≤ 256 := by
  have hl := nd_len hS.1 (m := (List.range (2 ^ w.labels.length)).map (pick (upto w.labels.length))) fun p hp => by
   obtain ⟨⟨h1, h2, h3⟩, _⟩ := (hS.2 p).1 hp
   obtain ⟨m, hm, he⟩ := pick_all (rise_sub (upto_rise _) h1 h2)
   rw [upto_len] at hm
   exact List.mem_map.2 ⟨m, List.mem_range.2 hm, he⟩
  rw [List.length_map, List.length_range] at hl
  exact Nat.le_trans hl (Nat.le_trans (Nat.pow_le_pow_right (by decide) hsm) (by decide))
 have hlv : ∀ t ∈ S, t.length = k + 1 ∧ ∃ r, listV w t = some r ∧ r.length = k + 1 ∧ canonV w r = true := fun t ht => by
  obtain ⟨⟨h1, h2, h3⟩, h4⟩ := (hS.2 t).1 ht
  obtain ⟨r, hr⟩ := Option.isSome_iff_exists.1 h4
  obtain ⟨g1, g2⟩ := listV_spec hr
  rw [rise_eq (setOf_spec t).1 h1 (setOf_spec t).2] at g1
  exact ⟨h3, r, hr, by rw [g1.length_eq, h3], g2⟩
 have hrow : ∀ (i : Nat) (P : List (List Int)), RefRow w ps (S.take i) P → P.length ≤ 256 ∧ ∀ x ∈ P, x.length = k + 1 := fun i P hP => by
  have hin : ∀ x ∈ P, x ∈ rowP w ps k := fun x hx => by
   obtain ⟨t, ht, g1, g2⟩ := (hP.2 x).1 hx
   obtain ⟨_, r, hr, hrl, hrc⟩ := hlv t (List.mem_of_mem_take ht)
   rw [hr, Option.some.injEq] at g1
   subst g1
   exact (mem_rowP hok k).2 ⟨hrc, hrl, g2⟩
  have hnd : P.Nodup := hP.1.imp fun h => bef_ne h
  exact ⟨Nat.le_trans (nd_len hnd hin) (Nat.le_trans (rowP_len hok ps k) (Nat.le_trans (Nat.pow_le_pow_right (by decide) hsm) (by decide))), fun x hx => rw_len hok (hin x hx)⟩
 (conv => whnf)
 (repeat' ((first | refine ord_ok ?_ ?_ | refine if_no (fun h => h rfl) ?_ | refine ify ?_ | refine ifn ?_ | refine i6 ?_ | refine ati ?_ | refine mst ?_ | refine rmd ?_ | refine ibo (fun _ => ?_) (fun _ => ?_) | exact oend) <;> conv => whnf))
 refine loop_lo (ι := Nat × List (List Int)) (fun q => q.1 ≤ S.length ∧ RefRow w ps (S.take q.1) q.2) (fun q => [(8, .d (.int .i64 (q.1 : Nat))), (7, .d (dLs q.2)), (6, .d (dLs S)), (5, .own 5), (2, .own 2)]) (fun _ => [(2, .cells 61 [.d (dM G.labels G.edges), .d (.bool e), .d (.int .i64 d), .d (dOs l)]), (5, .cells 59 [.d (dIs w.labels), .d (dEs w.edges)])]) (fun q => S.length - q.1) (0, []) (fun _ => rfl) ⟨Nat.zero_le _, refRow_nil _ _⟩ (.lax 7 rfl (.nils 1) (.refl _ _)) ⟨rfl, rfl, rfl, rfl, rfl, trivial⟩ ⟨rfl, rfl, trivial⟩ ?_
 rintro ⟨i, P⟩ ⟨hi, hP⟩
 dsimp only at hi hP
 obtain ⟨hPl, hPx⟩ := hrow i P hP
 have hPm : (P.map dIs).length = P.length := List.length_map _
 refine sxCode_sound c1_ok (G := G_l18) (pl := pl_l18) _ _ _ _ (by kernel_rfl) ?_
 by_cases hlt : i < S.length
 ·have hx := List.getElem?_eq_getElem hlt
  have hmem := List.getElem_mem hlt
  generalize S[i] = t at hx hmem
  have hxd : (S.map dIs)[i]? = some (dIs t) := by rw [List.getElem?_map, hx]; rfl
  obtain ⟨htl, r, hr, hrl, hrc⟩ := hlv t hmem
  have hls := rlist_pure w t (by omega)
  rw [hr] at hls
  unfold listY at hls
  have hkr := hkp r (by omega)
  rw [keptL_list (fun e => by rw [e] at hrl; simp at hrl) hrc] at hkr
  have hS1 : S.take (i + 1) = S.take i ++ [t] := by rw [List.take_add_one, hx]; rfl
  cases hv : allP ps r with
  | false =>
    rw [hv] at hkr
    (conv => whnf)
    (repeat' ((first | refine ord_ok ?_ ?_ | refine at_da hxd rfl ?_ | refine call_eq rfl hls ?_ | refine call_eq rfl hkr ?_ | refine ify ?_ | refine ifn ?_ | refine i6 ?_ | refine ati ?_ | refine mst ?_ | refine rmd ?_ | refine ibo (fun _ => ?_) (fun _ => ?_) | exact oend) <;> conv => whnf))
    refine ⟨(i + 1, P), _, _, ⟨hlt, ?_⟩, .refl _ _, ⟨rfl, rfl, rfl, rfl, rfl, trivial⟩, ⟨rfl, rfl, trivial⟩, by dsimp only; omega⟩
    dsimp only
    rw [hS1]
    exact refRow_no hP fun x hx' => by rw [hr, Option.some.injEq] at hx'; rw [← hx']; exact hv
  | true =>
    rw [hv] at hkr
    have hno : ∀ t' ∈ S.take i, listV w t' ≠ some r := fun t' ht' => by
     obtain ⟨j, hj, rfl⟩ := List.mem_take_iff_getElem.1 ht'
     exact sets_apart hS hx (List.getElem?_eq_getElem (by omega)) (by omega) hr
    have hyes := fun (m : Nat) => refRow_yes hP hr hv hno (k := m)
    rw [← hS1] at hyes
    (conv => whnf)
    (repeat' ((first | refine ord_ok ?_ ?_ | refine at_da hxd rfl ?_ | refine call_eq rfl hls ?_ | refine call_eq rfl hkr ?_ | refine ify ?_ | refine ifn ?_ | refine i6 ?_ | refine ati ?_ | refine mst ?_ | refine rmd ?_ | refine ibo (fun _ => ?_) (fun _ => ?_) | exact oend) <;> conv => whnf))
    refine loop_lo (ι := Int) (fun m => (0 ≤ m ∧ m ≤ P.length) ∧ ∀ x ∈ P.drop m.toNat, befL r x = true) (fun m => [(11, .d (.int .i64 m)), (9, .d (dIs r)), (8, .d (.int .i64 i)), (7, .d (dLs P)), (6, .d (dLs S)), (5, .own 5), (2, .own 2)]) (fun _ => [(2, .cells 61 [.d (dM G.labels G.edges), .d (.bool e), .d (.int .i64 d), .d (dOs l)]), (5, .cells 59 [.d (dIs w.labels), .d (dEs w.edges)])]) (fun m => m.toNat) ((P.map dIs).length : Int) (fun _ => rfl) ⟨⟨by omega, by omega⟩, by rw [hPm, Int.toNat_natCast, List.drop_length]; simp⟩ (.refl _ _) ⟨rfl, rfl, rfl, rfl, rfl, rfl, rfl, trivial⟩ ⟨rfl, rfl, trivial⟩ ?_
    rintro m ⟨⟨hm0, hml⟩, hdr⟩
    obtain ⟨m, rfl⟩ := Int.eq_ofNat_of_zero_le hm0
    rw [Int.toNat_natCast] at hdr
    refine sxCode_sound c1_ok (G := G_l18) (pl := pl_l18) _ _ _ _ (by kernel_rfl) ?_
    have hfin : ((P.map dIs).take m ++ [.list 1 (r.map dI)]) ++ (P.map dIs).drop m = (P.take m ++ r :: P.drop m).map dIs := by
     rw [List.map_append, List.map_cons, ← List.map_take, ← List.map_drop, List.append_assoc]; rfl
    by_cases h0 : 0 < m
    ·obtain ⟨j, rfl⟩ : ∃ j, m = j + 1 := ⟨m - 1, by omega⟩
     have hj : j < P.length := by omega
     have hq := List.getElem?_eq_getElem hj
     have hqm := List.getElem_mem hj
     have hdj := List.drop_eq_getElem_cons hj
     generalize P[j] = q at hq hqm hdj
     have hqd : (P.map dIs)[j]? = some (dIs q) := by rw [List.getElem?_map, hq]; rfl
     have hbe := rbefore_pure r q (by rw [hrl, hPx q hqm]) (by omega)
     cases hz : befL r q with
     | true =>
       rw [hz] at hbe
       (conv => whnf)
       (repeat' ((first | refine ord_ok ?_ ?_ | refine at_da hqd (by omega) ?_ | refine call_eq rfl hbe ?_ | refine ify ?_ | refine ifn ?_ | refine i6 ?_ | refine ati ?_ | refine mst ?_ | refine rmd ?_ | refine ibo (fun _ => ?_) (fun _ => ?_) | exact oend) <;> conv => whnf))
       refine ⟨((j + 1 : Nat) : Int) - 1, _, _, ⟨⟨by omega, by omega⟩, ?_⟩, .refl _ _, ⟨rfl, rfl, rfl, rfl, rfl, rfl, rfl, trivial⟩, ⟨rfl, rfl, trivial⟩, by omega⟩
       rw [show (((j + 1 : Nat) : Int) - 1).toNat = j by omega, hdj]
       intro x hx'
       rcases List.mem_cons.1 hx' with e | e
       ·rw [e]; exact hz
       ·exact hdr x e
     | false =>
       rw [hz] at hbe
       have hrw := hyes (j + 1) (by omega) hdr (fun y _ hy => by rw [Nat.add_sub_cancel, hq, Option.some.injEq] at hy; rw [← hy]; exact hz)
       (conv => whnf)
       (repeat' ((first | refine ord_ok ?_ ?_ | refine at_da hqd (by omega) ?_ | refine call_eq rfl hbe ?_ | refine hi_is rfl (show j + 1 ≤ (P.map dIs).length by omega) ?_ | refine sl_is (j + 1) rfl (by omega) ?_ | refine ify ?_ | refine ifn ?_ | refine i6 ?_ | refine ati ?_ | refine mst ?_ | refine rmd ?_ | refine ibo (fun _ => ?_) (fun _ => ?_) | exact oend) <;> conv => whnf))
       exact ⟨(i + 1, P.take (j + 1) ++ r :: P.drop (j + 1)), _, _, ⟨hlt, hrw⟩, .frz 52 rfl (.refl _ _), ⟨rfl, congrArg (fun x => Dat.d (.list 1 x)) hfin, rfl, rfl, rfl, trivial⟩, ⟨rfl, rfl, trivial⟩, by dsimp only; omega⟩
    ·have hm : m = 0 := by omega
     subst hm
     have hrw := hyes 0 (by omega) hdr (fun y h _ => absurd rfl h)
     (conv => whnf)
     (repeat' ((first | refine ord_ok ?_ ?_ | refine hi_is rfl (show 0 ≤ (P.map dIs).length by omega) ?_ | refine sl_is 0 rfl (by omega) ?_ | refine ify ?_ | refine ifn ?_ | refine i6 ?_ | refine ati ?_ | refine mst ?_ | refine rmd ?_ | refine ibo (fun _ => ?_) (fun _ => ?_) | exact oend) <;> conv => whnf))
     exact ⟨(i + 1, P.take 0 ++ r :: P.drop 0), _, _, ⟨hlt, hrw⟩, .frz 52 rfl (.refl _ _), ⟨rfl, congrArg (fun x => Dat.d (.list 1 x)) hfin, rfl, rfl, rfl, trivial⟩, ⟨rfl, rfl, trivial⟩, by dsimp only; omega⟩
 ·have hie : i = S.length := by omega
  subst hie
  rw [List.take_length] at hP
  have := refRow_eq hok hS hP
  rw [← this]
  ((conv => whnf); repeat' ((first | refine odw ?_ | refine ify ?_ | refine ifn ?_ | refine i6 ?_ | refine ati ?_ | refine mst ?_ | refine rmd ?_ | refine ibo (fun _ => ?_) (fun _ => ?_)) <;> conv => whnf))
  exact rfl
end
end Go.Proofs.YtjejpdfldmempaaGreatDoor
end
section
namespace Go.Proofs.YtjejpdfldmempaaGreatDoor
open Go.Sx Go.RowKit Go.Reg Go.Gr
set_option maxRecDepth 100000
theorem Pure.laxR {C : Cx} {f : FuncId} {xs : List Da} {Q : Da → Prop} {z : Da} (hq : ∀ y, Q y → LaxA y z) (h : Sx.Pure C f xs Q) : Sx.Pure C f xs (fun y => y = z) := by
 intro O w us hO hg hr
 obtain ⟨g1, g2⟩ := h O w us hO hg hr
 refine ⟨g1, g2.mono ?_⟩
 rintro e w' ⟨u, y, he, hy, ⟨cs, hr1, hr2⟩, ht⟩
 exact ⟨u, z, he, rfl, ⟨cs, RepC.lax (hq y hy) hr1, by rw [hr2]; exact laxA_toV (hq y hy) cs⟩, ht⟩
theorem lclone_nil : Pure C1 60 [dIs []] (fun y => y = dIs []) := by
 refine Pure.laxR (Q := fun y => y = .nils ∨ y = dIs []) (fun y hy => by rcases hy with rfl | rfl; exact .nils 1; exact .refl _) ?_
 refine pure_of c1_ok (pl := pl_clone) (G := G_clone) Tryz.func60 rfl Tryz.ntmps60 run_clone cok_clone (by simp) ?_
 ((conv => whnf); repeat' ((first | refine odw ?_ | refine ify ?_ | refine ifn ?_ | refine i6 ?_ | refine ati ?_ | refine mst ?_ | refine rmd ?_ | refine ibo (fun _ => ?_) (fun _ => ?_)) <;> conv => whnf))
 refine op_nilE rfl Tryz.underlying28 rfl rfl (.inr rfl) rfl ?_
 intro b
 cases b with
 | true =>
   ((conv => whnf); repeat' ((first | refine odw ?_ | refine ify ?_ | refine ifn ?_ | refine i6 ?_ | refine ati ?_ | refine mst ?_ | refine rmd ?_ | refine ibo (fun _ => ?_) (fun _ => ?_)) <;> conv => whnf))
   first | exact .inl rfl | exact .inr rfl
 | false =>
   ((conv => whnf); repeat' ((first | refine odw ?_ | refine ify ?_ | refine ifn ?_ | refine i6 ?_ | refine ati ?_ | refine mst ?_ | refine rmd ?_ | refine ibo (fun _ => ?_) (fun _ => ?_)) <;> conv => whnf))
   first | exact .inl rfl | exact .inr rfl
section
variable {G : Gr} {e : Bool} {d : Int} {l : List Opp}
theorem lpat_any (h : JobOk G e d l) (X : List Int) (hx : X.length ≤ 1000) : Pure C1 34 [dJ G e d l, dIs X] (fun z => z = patJ G e X) := by
 by_cases h0 : X = []
 ·subst h0
  have hr := lright_pure h
  have hcl := lclone_nil
  have hq := qedge_pure G h.ok [] (by simp)
  have hv := qvertG_pure G h.ok [] (by simp)
  rw [if_neg (by simp), if_neg (by rw [show linkedV G [] = true from rfl]; decide)] at hv
  refine pure_of c1_ok (pl := pl_lwp) (G := G_lwp) Tryz.func34 rfl Tryz.ntmps34 run_lwp cok_lwp (by simp) ?_
  cases e with
  | true =>
    unfold patJ
    rw [if_pos rfl]
    unfold edgeQ at hq ⊢
    rw [if_neg (by rw [show linkedV (lnGr G) [] = true from rfl]; decide), if_neg (by rw [show endsOf G.edges [] = [] from rfl]; decide)] at hq ⊢
    (conv => whnf)
    (repeat' ((first | refine ord_ok ?_ ?_ | refine call_eqb tab rfl hr rfl ?_ | refine call_eq rfl hq ?_ | refine ify ?_ | refine ifn ?_ | refine i6 ?_ | refine ati ?_ | refine mst ?_ | refine rmd ?_ | refine ibo (fun _ => ?_) (fun _ => ?_) | exact oend) <;> conv => whnf))
    exact rfl
  | false =>
    (conv => whnf)
    (repeat' ((first | refine ord_ok ?_ ?_ | refine call_eqb tab rfl hr rfl ?_ | refine call_eq rfl hv ?_ | refine call_eq rfl hcl ?_ | refine ify ?_ | refine ifn ?_ | refine i6 ?_ | refine ati ?_ | refine mst ?_ | refine rmd ?_ | refine ibo (fun _ => ?_) (fun _ => ?_) | exact oend) <;> conv => whnf))
    exact rfl
 ·exact lpattern_pure h X h0 hx
theorem kept_link {w : Gr} (hok : w.Ok) {ps : List Int → Bool} {X : List Int} (h : linkedV w X = false) : keptL w ps X = false := by
 cases hk : keptL w ps X with
 | false => rfl
 | true =>
   unfold keptL at hk
   rw [Bool.and_eq_true, Bool.and_eq_true] at hk
   rw [canon_linked hok hk.1.2] at h
   cases h
theorem kept_ps {w : Gr} {ps : List Int → Bool} {X : List Int} (h : ps X = false) : keptL w ps X = false := by
 cases hk : keptL w ps X with
 | false => rfl
 | true =>
   unfold keptL at hk
   rw [Bool.and_eq_true, Bool.and_eq_true, decide_eq_true_eq] at hk
   obtain ⟨⟨h0, _⟩, ha⟩ := hk
   have hl : 0 < X.length := List.length_pos_iff.2 h0
   unfold allP at ha
   have := List.all_eq_true.1 ha (X.length - 1) (List.mem_range.2 (by omega))
   rw [show X.length - 1 + 1 = X.length by omega, List.take_length, h] at this
   cases this
theorem patJ_yes (h : JobOk G e d l) {X : List Int} (hl : linkedV (wordsG G e) X = true) (h8 : (vsP G e X).length ≤ 8) : patJ G e X = .tuple [dPt (patP G e X), dIs (vsP G e X), .nili] := by
 unfold patJ
 cases e with
 | true =>
   rw [if_pos rfl]
   unfold edgeQ
   rw [if_neg (by rw [show linkedV (lnGr G) X = true from hl]; decide), if_neg (by have : (vertsOf (endsOf G.edges X)).length ≤ 8 := h8; omega)]; rfl
 | false =>
   rw [if_neg (by decide), if_neg (by have : X.length ≤ 8 := h8; omega), if_neg (by rw [show linkedV G X = true from hl]; decide)]; rfl
theorem patJ_big {X : List Int} (hl : linkedV (wordsG G e) X = true) (h8 : 8 < (vsP G e X).length) : patJ G e X = .tuple [dP0, .nils, dF 6 0 listS] := by
 unfold patJ
 cases e with
 | true =>
   rw [if_pos rfl]
   unfold edgeQ
   rw [if_neg (by rw [show linkedV (lnGr G) X = true from hl]; decide), if_pos (show 8 < (vertsOf (endsOf G.edges X)).length from h8)]
 | false =>
   rw [if_neg (by decide), if_pos (show 8 < X.length from h8)]
theorem patJ_no {X : List Int} (hl : linkedV (wordsG G e) X = false) : ∃ c, patJ G e X = .tuple [dP0, .nils, dF c 0 listS] := by
 unfold patJ
 cases e with
 | true =>
   rw [if_pos rfl]
   unfold edgeQ
   rw [if_pos (show linkedV (lnGr G) X = false from hl)]
   exact ⟨2, rfl⟩
 | false =>
   rw [if_neg (by decide)]
   split
   ·exact ⟨6, rfl⟩
   ·rw [if_pos (show linkedV G X = false from hl)]; exact ⟨2, rfl⟩
end
def pl_lgg : List (Nat × Plan) := [(25, .split 6 2 (.split 0 7 (.split 7 2 (.leaf [6, 0, 3, 0, 0, 0, 1, 6, 3, 0] [1, 3, 4, 5, 6, 0, 7, 2, 8, 9] [0, 0, 251, 0, 0, 24, 56, 121, 255, 511]) (.leaf [6, 0, 3, 0, 0, 0, 1, 6, 3, 0] [1, 3, 4, 5, 6, 0, 2, 7, 8, 9] [0, 0, 123, 0, 0, 24, 56, 127, 255, 511])) (.leaf [6, 0, 3, 0, 0, 0, 1, 6, 3, 0] [1, 3, 4, 5, 6, 7, 0, 2, 8, 9] [248, 0, 251, 0, 0, 24, 56, 120, 255, 511])) (.leaf [6, 0, 3, 0, 0, 0, 1, 6, 3, 0] [1, 3, 4, 5, 0, 2, 6, 7, 8, 9] [0, 0, 3, 0, 0, 24, 63, 127, 255, 511]))]
def G_lgg : List FuncId := []
theorem cok_lgg : codeOk Tryz.prog G_lgg pl_lgg (Tryz.f5.body.getD .skip) = true := by kernel_rfl
theorem run_lgg (vs : Array Value) (w : World) : (callFunc 5 vs).run C1.P w = .ok (.enter 5 vs) w := by kernel_rfl
set_option maxHeartbeats 8000000 in
theorem lgrows_pure (labels : List Int) (edges : List Edg) (e : Bool) (d : Int) (p : List Opp) (X : List Int) : Pure C1 5 [dIs labels, dEs edges, .bool e, .int .i64 d, dOs p, dIs X] (fun y => y = .bool true) := by
 have hal := alive18_pure
 have hmd := lmade_pure labels edges e d p
 have hXl : (X.map dI).length = X.length := List.length_map _
 refine pure_of c1_ok (pl := pl_lgg) (G := G_lgg) Tryz.func5 rfl Tryz.ntmps5 run_lgg cok_lgg (by simp) ?_
 (conv => whnf)
 (repeat' ((first | refine ord_ok ?_ ?_ | refine call_eq rfl hal ?_ | refine ify ?_ | refine ifn ?_ | refine i6 ?_ | refine ati ?_ | refine mst ?_ | refine rmd ?_ | refine ibo (fun _ => ?_) (fun _ => ?_) | exact oend) <;> conv => whnf))
 refine call_pure rfl hmd ?_
 rintro y (rfl | ⟨G, rfl, hJ⟩)
 ·((conv => whnf); repeat' ((first | refine odw ?_ | refine ify ?_ | refine ifn ?_ | refine i6 ?_ | refine ati ?_ | refine mst ?_ | refine rmd ?_ | refine ibo (fun _ => ?_) (fun _ => ?_)) <;> conv => whnf))
  exact rfl
 by_cases h9 : 9 < X.length
 ·((conv => whnf); repeat' ((first | refine odw ?_ | refine ify ?_ | refine ifn ?_ | refine i6 ?_ | refine ati ?_ | refine mst ?_ | refine rmd ?_ | refine ibo (fun _ => ?_) (fun _ => ?_)) <;> conv => whnf))
  exact rfl
 have h1 := hJ.d.1
 have h2 := hJ.d.2
 have hok := words_ok hJ.ok (by have := hJ.n; omega) hJ.m e
 have hsm := small_len hJ
 have hw := rwords18_pure hJ
 have hk18 := rkeeps18_pure hJ X (by omega)
 have hk := lkeeps_pure hJ X (by omega)
 have hpt := lpat_any hJ X (by omega)
 have hlk := rlinked_pure (wordsG G e) X
 have hgr := lGrow_pure hJ X (by omega)
 cases hL : linkedV (wordsG G e) X with
 | false =>
   rw [hL] at hlk
   have hK := kept_link hok (ps := psJ G e p) hL
   rw [hK] at hk18 hk
   obtain ⟨c, hc⟩ := patJ_no hL
   rw [hc] at hpt
   unfold growY at hgr
   rw [if_pos hK] at hgr
   have hc2 := code_pure 2 0 listS
   (conv => whnf)
   (repeat' ((first | refine ord_ok ?_ ?_ | refine if_no (fun h => h Iff.rfl) ?_ | refine call_eq rfl hw ?_ | refine call_eq rfl hk18 ?_ | refine call_eq rfl hk ?_ | refine call_eq rfl hpt ?_ | refine call_eq rfl hlk ?_ | refine call_eq rfl hgr ?_ | refine call_eq rfl hc2 ?_ | refine ify ?_ | refine ifn ?_ | refine i6 ?_ | refine ati ?_ | refine mst ?_ | refine rmd ?_ | refine ibo (fun _ => ?_) (fun _ => ?_) | exact oend) <;> conv => whnf))
   exact rfl
 | true =>
   rw [hL] at hlk
   have hp18 := rpat18_pure hJ X (by omega) hL
   by_cases h8 : (vsP G e X).length ≤ 8
   ·rw [patJ_yes hJ hL h8] at hpt
    rw [decide_eq_true h8] at hp18
    have hpe := patP_err hJ hL h8
    have hs8 := same8_pure (patP G e X) (by have := (pt_small hpe).2; omega)
    have hsv := same_pure (vsP G e X) (vsP G e X)
    rw [decide_eq_true rfl] at hsv
    generalize patP G e X = q at hpt hp18 hs8
    generalize vsP G e X = V at hpt hp18 hsv
    cases hK : keptL (wordsG G e) (psJ G e p) X with
    | false =>
      rw [hK] at hk18 hk
      unfold growY at hgr
      rw [if_pos hK] at hgr
      have hc2 := code_pure 2 0 listS
      (conv => whnf)
      (repeat' ((first | refine ord_ok ?_ ?_ | refine if_no (fun h => h Iff.rfl) ?_ | refine call_eq rfl hw ?_ | refine call_eq rfl hk18 ?_ | refine call_eq rfl hk ?_ | refine call_eq rfl hpt ?_ | refine call_eq rfl hlk ?_ | refine call_eq rfl hp18 ?_ | refine call_eq rfl hs8 ?_ | refine call_eq rfl hsv ?_ | refine call_eq rfl hgr ?_ | refine call_eq rfl hc2 ?_ | refine ify ?_ | refine ifn ?_ | refine i6 ?_ | refine ati ?_ | refine mst ?_ | refine rmd ?_ | refine ibo (fun _ => ?_) (fun _ => ?_) | exact oend) <;> conv => whnf))
      exact rfl
    | true =>
      rw [hK] at hk18 hk
      unfold growY at hgr
      rw [if_neg (by rw [hK]; decide)] at hgr
      have hnx := rnext_pure (wordsG G e) hok X (by omega)
      have hst := start_pure hJ
      have hl1 : Pure C1 41 [dJr G e d p, .int .i64 1] (fun z => z = dLs (rowP (wordsG G e) (psJ G e p) 0)) := rlevel18_pure hJ 0 (by omega)
      have hkv : ∀ v : Int, Pure C1 32 [dJr G e d p, .list 1 (X.map dI ++ [.int .i64 v])] (fun z => z = .bool (keptL (wordsG G e) (psJ G e p) (X ++ [v]))) := fun v => by
       have := rkeeps18_pure hJ (X ++ [v]) (by rw [List.length_append, List.length_singleton]; omega)
       rwa [show dIs (X ++ [v]) = .list 1 (X.map dI ++ [.int .i64 v]) by simp [dIs, dI]] at this
      have hgk := grow_kept hK
      have hNl : (nextV (wordsG G e) X).length ≤ 4294967296 := nextV_len hok (by omega)
      have h0l : (rowP (wordsG G e) (psJ G e p) 0).length ≤ 256 := Nat.le_trans (rowP_len hok _ 0) (Nat.le_trans (Nat.pow_le_pow_right (by decide) hsm) (by decide))
      generalize wordsG G e = w at hw hk18 hk hlk hgr hnx hst hl1 hkv hgk hNl h0l
      generalize psJ G e p = ps at hgr hst hl1 hkv hgk h0l
      have hs0 := lsame_pure (rowP w ps 0) (by omega)
      generalize nextV w X = N at hnx hgk hNl
      have hdN : (N.map dI).length = N.length := List.length_map _
      by_cases hd : d ≤ (X.length : Int)
      ·rw [if_pos hd] at hgr
       have hsn : Pure C1 30 [.nils, .nils] (fun y => y = .bool true) := Sx.Pure.lax (.cons (.nils 1) (.cons (.nils 1) .nil)) (lsame_pure [] (by simp))
       (conv => whnf)
       (repeat' ((first | refine ord_ok ?_ ?_ | refine if_no (fun h => h Iff.rfl) ?_ | refine call_eq rfl hw ?_ | refine call_eq rfl hk18 ?_ | refine call_eq rfl hk ?_ | refine call_eq rfl hpt ?_ | refine call_eq rfl hlk ?_ | refine call_eq rfl hp18 ?_ | refine call_eq rfl hs8 ?_ | refine call_eq rfl hsv ?_ | refine call_eq rfl hgr ?_ | refine call_eq rfl hnx ?_ | refine ify ?_ | refine ifn ?_ | refine i6 ?_ | refine ati ?_ | refine mst ?_ | refine rmd ?_ | refine ibo (fun _ => ?_) (fun _ => ?_) | exact oend) <;> conv => whnf))
       refine loop_lo (ι := Nat) (fun i => i = 0) (fun i => [(28, .d (.int .i64 (0 : Nat))), (27, .d (dIs N)), (26, .d .nils), (25, .d .nili), (24, .d .nils), (14, .own 14), (13, .own 13), (5, .d (dIs X)), (3, .d (.int .i64 d))]) (fun _ => [(13, .cells 58 [.d (dG G), .d (.bool e), .d (.int .i64 d), .d (dOs p)]), (14, .cells 61 [.d (dM G.labels G.edges), .d (.bool e), .d (.int .i64 d), .d (dOs p)])]) (fun _ => 0) 0 (fun _ => rfl) rfl (.refl _ _) ⟨rfl, rfl, rfl, rfl, rfl, rfl, rfl, rfl, rfl, trivial⟩ ⟨rfl, rfl, trivial⟩ ?_
       rintro i rfl
       refine sxCode_sound c1_ok (G := G_lgg) (pl := pl_lgg) _ _ _ _ (by kernel_rfl) ?_
       (conv => whnf)
       (repeat' ((first | refine ord_ok ?_ ?_ | refine call_eq rfl hst ?_ | refine call_eq rfl hl1 ?_ | refine call_eq rfl hsn ?_ | refine call_eq rfl hs0 ?_ | refine ify ?_ | refine ifn ?_ | refine i6 ?_ | refine ati ?_ | refine mst ?_ | refine rmd ?_ | refine ibo (fun _ => ?_) (fun _ => ?_) | exact oend) <;> conv => whnf))
       all_goals exact rfl
      ·rw [if_neg hd] at hgr
       have hsg := lsame_pure (growP w ps X) (by rw [← hgk, List.length_map]; have := List.length_filter_le (fun v => keptL w ps (X ++ [v])) N; omega)
       (conv => whnf)
       (repeat' ((first | refine ord_ok ?_ ?_ | refine if_no (fun h => h Iff.rfl) ?_ | refine call_eq rfl hw ?_ | refine call_eq rfl hk18 ?_ | refine call_eq rfl hk ?_ | refine call_eq rfl hpt ?_ | refine call_eq rfl hlk ?_ | refine call_eq rfl hp18 ?_ | refine call_eq rfl hs8 ?_ | refine call_eq rfl hsv ?_ | refine call_eq rfl hgr ?_ | refine call_eq rfl hnx ?_ | refine ify ?_ | refine ifn ?_ | refine i6 ?_ | refine ati ?_ | refine mst ?_ | refine rmd ?_ | refine ibo (fun _ => ?_) (fun _ => ?_) | exact oend) <;> conv => whnf))
       refine loop_lo (ι := Nat) (fun i => i ≤ N.length) (fun i => [(28, .d (.int .i64 i)), (27, .d (dIs N)), (26, .own 300), (25, .d .nili), (24, .d (dLs (growP w ps X))), (14, .own 14), (13, .own 13), (5, .d (dIs X)), (3, .d (.int .i64 d))]) (fun i => [(13, .cells 58 [.d (dG G), .d (.bool e), .d (.int .i64 d), .d (dOs p)]), (14, .cells 61 [.d (dM G.labels G.edges), .d (.bool e), .d (.int .i64 d), .d (dOs p)]), (300, .slice 28 1 ((((N.take i).filter fun v => keptL w ps (X ++ [v])).map fun v => X ++ [v]).map dIs))]) (fun i => N.length - i) 0 (fun _ => rfl) (Nat.zero_le _) (.own 26 300 28 1 rfl rfl (.refl _ _)) ⟨rfl, rfl, rfl, rfl, rfl, rfl, rfl, rfl, rfl, trivial⟩ ⟨rfl, rfl, rfl, trivial⟩ ?_
       intro i hi
       refine sxCode_sound c1_ok (G := G_lgg) (pl := pl_lgg) _ _ _ _ (by kernel_rfl) ?_
       have hfl := List.length_filter_le (fun v => keptL w ps (X ++ [v])) (N.take i)
       rw [List.length_take] at hfl
       by_cases hil : i < N.length
       ·have hx := List.getElem?_eq_getElem hil
        generalize N[i] = v at hx
        have hxd : (N.map dI)[i]? = some (.int .i64 v) := by rw [List.getElem?_map, hx]; rfl
        have hkx := hkv v
        have hst2 : (N.take (i + 1)).filter (fun v => keptL w ps (X ++ [v])) = (N.take i).filter (fun v => keptL w ps (X ++ [v])) ++ (if keptL w ps (X ++ [v]) = true then [v] else []) := by
         rw [List.take_add_one, hx, Option.toList_some, List.filter_append]; congr 1; rw [List.filter_cons, List.filter_nil]
        have hFl : ((((N.take i).filter fun v => keptL w ps (X ++ [v])).map fun v => X ++ [v]).map dIs).length ≤ 4294967296 := by rw [List.length_map, List.length_map]; omega
        have hX1 : (([] : List Da) ++ X.map dI) = X.map dI := List.nil_append _
        cases hv : keptL w ps (X ++ [v]) with
        | false =>
          rw [hv] at hkx hst2
          rw [if_neg (by decide), List.append_nil] at hst2
          (conv => whnf)
          (repeat' ((first | refine ord_ok ?_ ?_ | refine at_da hxd rfl ?_ | refine call_frz 139 rfl ?_ | refine call_eq rfl hkx ?_ | refine ify ?_ | refine ifn ?_ | refine i6 ?_ | refine ati ?_ | refine mst ?_ | refine rmd ?_ | refine ibo (fun _ => ?_) (fun _ => ?_) | exact oend) <;> conv => whnf))
          exact ⟨i + 1, _, _, hil, .refl _ _, ⟨rfl, rfl, rfl, rfl, rfl, rfl, rfl, rfl, rfl, trivial⟩, ⟨rfl, rfl, slice_is (by rw [hst2]), trivial⟩, by omega⟩
        | true =>
          rw [hv] at hkx hst2
          rw [if_pos rfl] at hst2
          have hfin : (((N.take i).filter fun v => keptL w ps (X ++ [v])).map fun v => X ++ [v]).map dIs ++ [.list 1 (X.map dI ++ [.int .i64 v])] = (((N.take (i + 1)).filter fun v => keptL w ps (X ++ [v])).map fun v => X ++ [v]).map dIs := by
           rw [hst2, List.map_append, List.map_append]; simp [dIs, dI]
          (conv => whnf)
          (repeat' ((first | refine ord_ok ?_ ?_ | refine at_da hxd rfl ?_ | refine call_frz 139 rfl ?_ | refine call_eq rfl hkx ?_ | refine ify ?_ | refine ifn ?_ | refine i6 ?_ | refine ati ?_ | refine mst ?_ | refine rmd ?_ | refine ibo (fun _ => ?_) (fun _ => ?_) | exact oend) <;> conv => whnf))
          exact ⟨i + 1, _, _, hil, .refl _ _, ⟨rfl, rfl, rfl, rfl, rfl, rfl, rfl, rfl, rfl, trivial⟩, ⟨rfl, rfl, slice_is hfin, trivial⟩, by omega⟩
       ·rw [List.take_of_length_le (show N.length ≤ i by omega), hgk]
        (conv => whnf)
        (repeat' ((first | refine ord_ok ?_ ?_ | refine call_eq rfl hst ?_ | refine call_eq rfl hl1 ?_ | refine call_eqb tab rfl hsg rfl ?_ | refine call_eq rfl hs0 ?_ | refine ify ?_ | refine ifn ?_ | refine i6 ?_ | refine ati ?_ | refine mst ?_ | refine rmd ?_ | refine ibo (fun _ => ?_) (fun _ => ?_) | exact oend) <;> conv => whnf))
        exact rfl
   ·rw [patJ_big hL (by omega)] at hpt
    rw [decide_eq_false h8] at hp18
    have hK : keptL (wordsG G e) (psJ G e p) X = false := kept_ps (by rw [psJ_eq hJ hL, decide_eq_false h8]; rfl)
    rw [hK] at hk18 hk
    unfold growY at hgr
    rw [if_pos hK] at hgr
    have hc2 := code_pure 2 0 listS
    have hc6 := code_pure 6 0 listS
    (conv => whnf)
    (repeat' ((first | refine ord_ok ?_ ?_ | refine if_no (fun h => h Iff.rfl) ?_ | refine call_eq rfl hw ?_ | refine call_eq rfl hk18 ?_ | refine call_eq rfl hk ?_ | refine call_eq rfl hpt ?_ | refine call_eq rfl hlk ?_ | refine call_eq rfl hp18 ?_ | refine call_eq rfl hgr ?_ | refine call_eq rfl hc2 ?_ | refine call_eq rfl hc6 ?_ | refine ify ?_ | refine ifn ?_ | refine i6 ?_ | refine ati ?_ | refine mst ?_ | refine rmd ?_ | refine ibo (fun _ => ?_) (fun _ => ?_) | exact oend) <;> conv => whnf))
    exact rfl
end Go.Proofs.YtjejpdfldmempaaGreatDoor
end
section
namespace Go.Proofs.YtjejpdfldmempaaGreatDoor
open Go.ChangeShapes Go.WideShapes Go.ChangeAt Go.RowKit Go.Reg Go.Gr Go.Sx Go.ChangeMaps
theorem own : ownKnob Tryz.prog.godebug = none := by kernel_rfl
theorem laidOut : laidOutB Tryz.prog = true := by kernel_rfl
theorem gEt : Tryz.prog.globalNamed "errors.errorType" = some 0 := by kernel_rfl
theorem gRt : (Tryz.prog.cutTypes.find? (·.1 == "internal/reflectlite.rtype")).map (·.2) = some 293 := by kernel_rfl
theorem oneRow : ((List.range Tryz.prog.types.size).filter fun t => Tryz.prog.rowNamed t [101, 114, 114, 111, 114]) = [39] := by kernel_rfl
abbrev laidAll : List (String × DataW Unit) := Rows.levelOnceRow.laid
theorem laid_parts {W : World} (h : laidMetH Tryz.prog laidAll W) : laidMet Tryz.prog [] W ∧ handlesMet Tryz.prog [("errors.errorType", Rows.laid_errors_errorType)] W := h
theorem var_exact {P : Program} {w : World} {name : String} {g : Nat} {cs : Array Value} (h : w.var? P name = some cs) (hg : P.globalNamed name = some g) : ∃ t fr, w.heap[g]? = some (.cells cs t fr) := by
 unfold World.var? at h
 rw [hg, Option.bind_some] at h
 cases hh : w.heap[g]? with
 | none => rw [hh] at h; cases h
 | some o =>
   rw [hh] at h
   cases o with
   | cells cs' t fr => simp only [Option.some.injEq] at h; subst h; exact ⟨t, fr, rfl⟩
   | _ => cases h
theorem errV_of_laid {W : World} (h : laidMetH Tryz.prog laidAll W) : ∃ t fr, W.heap[0]? = some (.cells #[.iface 293 (.agg #[.pointer (some ⟨5, 39, none⟩)])] t fr) := by
 obtain ⟨name, u, ty, e1, e2, e3, e4, e5⟩ := (laid_parts h).2 _ (List.mem_singleton.2 rfl)
 have en : name = [101, 114, 114, 111, 114] := (Option.some.inj e1).symm
 subst en
 obtain rfl := Option.some.inj (gRt.symm.trans e2)
 have hm : ty ∈ (List.range Tryz.prog.types.size).filter fun t => Tryz.prog.rowNamed t [101, 114, 114, 111, 114] := List.mem_filter.2 ⟨List.mem_range.2 e3, e4⟩
 rw [oneRow] at hm
 obtain rfl := List.mem_singleton.1 hm
 have hh : typeHandle Tryz.prog 39 = .pointer (some ⟨5, 39, none⟩) := by kernel_rfl
 rw [hh] at e5
 exact var_exact e5 gEt
theorem grep_of {W : World} {g : Nat} {cs : Array Value} {t : TypeId} {fr : Nat × Nat} {d : Da} (h : W.heap[g]? = some (.cells cs t fr)) (hr : Sx.RepC [] W d cs.toList) (hs : cs.size = Sx.gsz d) : Sx.GRep [] W (g, d) := by
 refine ⟨⟨[_], ?_, rfl⟩, by simp, cs, t, fr, h, hs⟩
 simp only [Sx.RepC]
 refine ⟨g, 0, cs.toList, rfl, by simp, (Array.getElem?_eq_some_iff.1 h).1, hr, fun j u hj => ?_⟩
 rw [Lib.cell_of_heap h, Nat.zero_add]
 simpa using hj
theorem globs_of {W : World} (h : laidMetH Tryz.prog laidAll W) : Sx.Glob C1 [] W := by
 obtain ⟨t1, f1, e1⟩ := errV_of_laid h
 intro g hg
 rw [List.mem_singleton.1 hg]
 exact grep_of e1 (by simp only [Sx.RepC]) rfl
def eI : Sx.Enc Int := ⟨fun n => [.int .i64 n], dI, 1, fun _ => rfl, fun n u hu => by simp at hu; rw [hu]; rfl, fun O w n => by simp [dI, Sx.RepC]⟩
def eE : Sx.Enc Edg := ⟨fun e => [.int .i64 e.a, .int .i64 e.b], dE, 2, fun _ => rfl, fun n u hu => by simp at hu; rcases hu with rfl | rfl <;> rfl, fun O w n => by simp [dE, Sx.RepC, Sx.RepCs]⟩
set_option maxRecDepth 100000 in
theorem int_el {H : Type} {e' : TypeId × Value → H} {w : World} {base : Nat} {spare : Nat → Bool} {held : Bool} (n : Nat) (cs : List Value) (y : DataW H × List MemPlace)
  (h : DataW.trod e' Tryz.prog w base spare held n 3 cs = some y) : ∃ x : Int, cs = eI.enc x ∧ True := by
 obtain ⟨m, h0, _⟩ := DataW.trod_int Tryz.underlying3 h
 exact ⟨m, h0, trivial⟩
set_option maxRecDepth 100000 in
theorem edge_el {H : Type} {e' : TypeId × Value → H} {w : World} {base : Nat} {spare : Nat → Bool} {held : Bool} (n : Nat) (cs : List Value) (y : DataW H × List MemPlace)
  (h : DataW.trod e' Tryz.prog w base spare held n 137 cs = some y) : ∃ x : Edg, cs = eE.enc x ∧ True := by
 obtain ⟨xs, k, _, _, hcl, hxl, hf⟩ := DataW.trod_struct Tryz.underlying137 h
 have cl : cs.length = 2 := hcl.trans (by kernel_rfl)
 match cs, cl with
 | [c0, c1], _ =>
   have hx4 : xs.length = 2 := hxl
   match xs, hx4 with
   | [y0, y1], _ =>
     have k3 : Tryz.prog.cellsOf 3 = 1 := by kernel_rfl
     have g0 := hf 0 _ rfl
     have g1 := hf 1 _ rfl
     simp [k3] at g0 g1
     obtain ⟨n0, h0, _⟩ := DataW.trod_int Tryz.underlying3 g0
     obtain ⟨n1, h1, _⟩ := DataW.trod_int Tryz.underlying3 g1
     simp at h0 h1
     subst h0; subst h1
     exact ⟨⟨n0, n1⟩, rfl, trivial⟩
theorem rep_bool {O : List Nat} {w : World} {v : Value} {b : Bool} (h : Sx.Rep O w (.bool b) v) : v = .bool b := by obtain ⟨cs, r, rfl⟩ := h; simp only [Sx.RepC] at r; subst r; rfl
noncomputable def laidWorld (os : Os) : World :=
 let w0 := World.holding Tryz.prog os ⟨#[], #[], []⟩
 { w0 with heap := w0.heap.modify 0 fun
   | .cells _ t frozen => .cells #[.iface 293 (.agg #[.pointer (some ⟨5, 39, none⟩)])] t frozen
   | o => o }
theorem laidWorld_met (os : Os) (args : Array Value) : laidMetH Tryz.prog laidAll ((laidWorld os).forCall (fun _ _ => 0) ⟨#[], args, []⟩).memory :=
 laidMetH_of_parts (laidMet_nil _ _) (by kernel_rfl)
end Go.Proofs.YtjejpdfldmempaaGreatDoor
end
section
namespace Go.Reg
open Go Go.Deep
section
open Go.ChangeShapes Go.RowKit
variable {H : Type} {enc : TypeId × Value → H} {P : Program} {w : World} {base : Nat} {spare : Nat → Bool} {held : Bool}
theorem trodAll_mk5 {t0 t1 t2 t3 t4 : TypeId} {v0 v1 v2 v3 v4 : Value} {d0 d1 d2 d3 d4 : DataW H} {p0 p1 p2 p3 p4 : List MemPlace} (h0 : DataW.Trod enc P w base spare held t0 v0 d0 p0) (h1 : DataW.Trod enc P w base spare held t1 v1 d1 p1)
  (h2 : DataW.Trod enc P w base spare held t2 v2 d2 p2) (h3 : DataW.Trod enc P w base spare held t3 v3 d3 p3) (h4 : DataW.Trod enc P w base spare held t4 v4 d4 p4) : DataW.TrodAll enc P w base spare held [t0, t1, t2, t3, t4] [v0, v1, v2, v3, v4] [d0, d1, d2, d3, d4] (p0 ++ (p1 ++ (p2 ++ (p3 ++ p4)))) := ⟨p0, p1 ++ (p2 ++ (p3 ++ p4)), h0, trodAll_mk4 h1 h2 h3 h4, rfl⟩
theorem trodAll_six {t0 t1 t2 t3 t4 t5 : TypeId} {args : Array Value} {ds : List (DataW H)} {ps : List MemPlace} (h : DataW.TrodAll enc P w base spare held [t0, t1, t2, t3, t4, t5] args.toList ds ps) :
  ∃ v0 v1 v2 v3 v4 v5 d0 d1 d2 d3 d4 d5 p0 p1 p2 p3 p4 p5, args = #[v0, v1, v2, v3, v4, v5] ∧ ds = [d0, d1, d2, d3, d4, d5] ∧ ps = p0 ++ (p1 ++ (p2 ++ (p3 ++ (p4 ++ p5)))) ∧ DataW.Trod enc P w base spare held t0 v0 d0 p0 ∧ DataW.Trod enc P w base spare held t1 v1 d1 p1 ∧ DataW.Trod enc P w base spare held t2 v2 d2 p2 ∧ DataW.Trod enc P w base spare held t3 v3 d3 p3 ∧ DataW.Trod enc P w base spare held t4 v4 d4 p4 ∧ DataW.Trod enc P w base spare held t5 v5 d5 p5 := by
 obtain ⟨v0, vs0, d0, ds0, p0, q0, hargs, rfl, rfl, hd0, hr0⟩ := trodAll_cons h
 obtain ⟨v1, vs1, d1, ds1, p1, q1, rfl, rfl, rfl, hd1, hr1⟩ := trodAll_cons hr0
 obtain ⟨v2, vs2, d2, ds2, p2, q2, rfl, rfl, rfl, hd2, hr2⟩ := trodAll_cons hr1
 obtain ⟨v3, vs3, d3, ds3, p3, q3, rfl, rfl, rfl, hd3, hr3⟩ := trodAll_cons hr2
 obtain ⟨v4, vs4, d4, ds4, p4, q4, rfl, rfl, rfl, hd4, hr4⟩ := trodAll_cons hr3
 obtain ⟨v5, vs5, d5, ds5, p5, q5, rfl, rfl, rfl, hd5, hr5⟩ := trodAll_cons hr4
 obtain ⟨rfl, rfl, rfl⟩ := trodAll_nil hr5
 exact ⟨v0, v1, v2, v3, v4, v5, d0, d1, d2, d3, d4, d5, p0, p1, p2, p3, p4, p5, by cases args; simp_all, rfl, by simp, hd0, hd1, hd2, hd3, hd4, hd5⟩
theorem trodAll_mk6 {t0 t1 t2 t3 t4 t5 : TypeId} {v0 v1 v2 v3 v4 v5 : Value} {d0 d1 d2 d3 d4 d5 : DataW H} {p0 p1 p2 p3 p4 p5 : List MemPlace} (h0 : DataW.Trod enc P w base spare held t0 v0 d0 p0) (h1 : DataW.Trod enc P w base spare held t1 v1 d1 p1)
  (h2 : DataW.Trod enc P w base spare held t2 v2 d2 p2) (h3 : DataW.Trod enc P w base spare held t3 v3 d3 p3) (h4 : DataW.Trod enc P w base spare held t4 v4 d4 p4) (h5 : DataW.Trod enc P w base spare held t5 v5 d5 p5) : DataW.TrodAll enc P w base spare held [t0, t1, t2, t3, t4, t5] [v0, v1, v2, v3, v4, v5] [d0, d1, d2, d3, d4, d5] (p0 ++ (p1 ++ (p2 ++ (p3 ++ (p4 ++ p5))))) := ⟨p0, p1 ++ (p2 ++ (p3 ++ (p4 ++ p5))), h0, trodAll_mk5 h1 h2 h3 h4 h5, rfl⟩
end
end Go.Reg
namespace Go.Proofs.YtjejpdfldmempaaGreatDoor
open Go.ChangeShapes Go.WideShapes Go.ChangeAt Go.RowKit Go.Reg Go.Gr Go.Sx Go.ChangeMaps
def eO : Sx.Enc Opp := ⟨fun e => [.int .i64 e.kind, .int .i64 e.n], dO, 2, fun _ => rfl, fun n u hu => by simp at hu; rcases hu with rfl | rfl <;> rfl, fun O w n => by simp [dO, Sx.RepC, Sx.RepCs]⟩
set_option maxRecDepth 100000 in
theorem op_el {H : Type} {e' : TypeId × Value → H} {w : World} {base : Nat} {spare : Nat → Bool} {held : Bool} (n : Nat) (cs : List Value) (y : DataW H × List MemPlace)
  (h : DataW.trod e' Tryz.prog w base spare held n 76 cs = some y) : ∃ x : Opp, cs = eO.enc x ∧ True := by
 obtain ⟨xs, k, _, _, hcl, hxl, hf⟩ := DataW.trod_struct Tryz.underlying76 h
 have cl : cs.length = 2 := hcl.trans (by kernel_rfl)
 match cs, cl with
 | [c0, c1], _ =>
   have hx4 : xs.length = 2 := hxl
   match xs, hx4 with
   | [y0, y1], _ =>
     have k3 : Tryz.prog.cellsOf 3 = 1 := by kernel_rfl
     have g0 := hf 0 _ rfl
     have g1 := hf 1 _ rfl
     simp [k3] at g0 g1
     obtain ⟨n0, h0, _⟩ := DataW.trod_int Tryz.underlying3 g0
     obtain ⟨n1, h1, _⟩ := DataW.trod_int Tryz.underlying3 g1
     simp at h0 h1
     subst h0; subst h1
     exact ⟨⟨n0, n1⟩, rfl, trivial⟩
end Go.Proofs.YtjejpdfldmempaaGreatDoor
end
section
namespace Go.Proofs.YtjejpdfldmempaaGreatDoor
open Go.ChangeShapes Go.WideShapes Go.ChangeAt Go.RowKit Go.Reg Go.Gr Go.ChangeMaps
set_option maxRecDepth 100000 in
theorem contractLevelGrows (H : Type) (enc : TypeId × Value → H) (W : World) (base : Nat) (args : Array Value) (ds gs : List (DataW H)) (before : List MemPlace)
  (hval : ∀ (j : Nat) t v, Tryz.f5.params[j]? = some t → args[j]? = some v → Value.okWide Tryz.prog W .any base t v)
  (hW : DataW.Whole enc Tryz.prog Tryz.f5.params.toList Rows.levelGrowsSpec.vars false W args.toList ds gs before) (hsz0 : (DataW.weightsEach Tryz.prog (Tryz.f5.params.toList ++ (OpenSpec.ofChange Rows.levelGrowsSpec).bare.plain.varTypes Tryz.prog) (ds ++ gs)).all (· ≤ reachBytes) = true) (hL : laidMetH Tryz.prog Rows.levelGrowsRow.laid W) (_hsh : W.ShapedOpen Tryz.prog) :
  Calls Tryz.prog 5 args W fun e W' => ∃ v, e = .returned v ∧ Rows.levelGrowsSpec.post enc Tryz.prog Tryz.f5 false true false false W args v W' := by
 have hsz := hsz0
 clear hsz0
 have hW' := hW
 obtain ⟨p, q, hA0, hV, rfl, hfz, hnd⟩ := hW
 have hA : DataW.TrodAll enc Tryz.prog W 0 (fun _ => true) true Tryz.f5.params.toList args.toList ds p := hA0
 rw [Tryz.params5] at hA hval hsz
 obtain ⟨v0, v1, v2, v3, v4, v5, d0, d1, d2, d3, d4, d5, p0, p1, p2, p3, p4, p5, rfl, rfl, rfl, h0, h1, h2, h3, h4, h5⟩ := trodAll_six hA
 obtain ⟨rfl, rfl⟩ := trodVars_none hV
 have c0 := Sx.cap_of Tryz.underlying28 (hval 0 _ _ rfl rfl) h0
 obtain ⟨x0, a0, _⟩ := argSl_of (enc := eI.enc) (fun _ => True) Tryz.underlying28 (k := 1) (by kernel_rfl) (by decide) (fun _ => rfl) int_el (hval 0 _ _ rfl rfl) h0
 have c1 := Sx.cap_of Tryz.underlying33 (hval 1 _ _ rfl rfl) h1
 obtain ⟨x1, a1, _⟩ := argSl_of (enc := eE.enc) (fun _ => True) Tryz.underlying33 (k := 2) (by kernel_rfl) (by decide) (fun _ => rfl) edge_el (hval 1 _ _ rfl rfl) h1
 obtain ⟨x2, rfl, rfl, rfl⟩ := open_bool Tryz.underlying4 (hval 2 _ _ rfl rfl) h2
 obtain ⟨x3, rfl, rfl, rfl, w3⟩ := open_int Tryz.underlying3 (hval 3 _ _ rfl rfl) h3
 have c4 := Sx.cap_of Tryz.underlying53 (hval 4 _ _ rfl rfl) h4
 obtain ⟨x4, a4, _⟩ := argSl_of (enc := eO.enc) (fun _ => True) Tryz.underlying53 (k := 2) (by kernel_rfl) (by decide) (fun _ => rfl) op_el (hval 4 _ _ rfl rfl) h4
 have c5 := Sx.cap_of Tryz.underlying28 (hval 5 _ _ rfl rfl) h5
 obtain ⟨x5, a5, _⟩ := argSl_of (enc := eI.enc) (fun _ => True) Tryz.underlying28 (k := 1) (by kernel_rfl) (by decide) (fun _ => rfl) int_el (hval 5 _ _ rfl rfl) h5
 have hg := globs_of (show laidMetH Tryz.prog laidAll W from hL)
 have l0 : ∀ x ∈ p0, x.block < W.heap.size := fun x hx => by have := hW'.lt x (by simp [hx]); simpa using this
 have l1 : ∀ x ∈ p1, x.block < W.heap.size := fun x hx => by have := hW'.lt x (by simp [hx]); simpa using this
 have l4 : ∀ x ∈ p4, x.block < W.heap.size := fun x hx => by have := hW'.lt x (by simp [hx]); simpa using this
 have l5 : ∀ x ∈ p5, x.block < W.heap.size := fun x hx => by have := hW'.lt x (by simp [hx]); simpa using this
 refine ((lgrows_pure x0 x1 x2 x3 x4 x5).calls hg (Sx.reps_cons (eI.rep_arg (by decide) a0 c0) (Sx.reps_cons (eE.rep_arg (by decide) a1 c1) (Sx.reps_cons (Sx.rep_of_bool x2) (Sx.reps_cons (Sx.rep_of_int .i64 x3) (Sx.reps_cons (eO.rep_arg (by decide) a4 c4) (Sx.reps_cons (eI.rep_arg (by decide) a5 c5) Sx.reps_nil))))))).mono fun e W' ⟨u, y, he, hy, hr, ht⟩ => ?_
 subst hy
 obtain rfl := rep_bool hr
 subst he
 refine ⟨_, rfl, _, _, _, [], p0 ++ (p1 ++ ([] ++ ([] ++ (p4 ++ p5)))), [], hW', ?_, ?_, ?_, ?_, fun h => by cases h⟩
 ·exact trodAll_mk1 (shut_bool Tryz.underlying4 true)
 ·exact trodAll_mk6 (Below.trod laidOut (by kernel_rfl) (of_decide_eq_true (by kernel_rfl)) h0 ht.below l0) (Below.trod laidOut (by kernel_rfl) (of_decide_eq_true (by kernel_rfl)) h1 ht.below l1) (shut_bool Tryz.underlying4 x2) (shut_int Tryz.underlying3 w3) (Below.trod laidOut (by kernel_rfl) (of_decide_eq_true (by kernel_rfl)) h4 ht.below l4) (Below.trod laidOut (by kernel_rfl) (of_decide_eq_true (by kernel_rfl)) h5 ht.below l5)
 ·rfl
 ·refine ⟨ht.os, ht.output, fun i hi => ?_⟩
  rw [ht.blk i hi (by simp)]
  have hsome : ∃ o, W.heap[i]? = some o := ⟨_, Array.getElem?_eq_getElem hi⟩
  obtain ⟨o, ho⟩ := hsome
  rw [ho]
  cases o <;> simp
theorem readsLevelGrows (os : Os) {H : Type} (enc : TypeId × Value → H) : ∃ places, DataW.whole enc Tryz.prog ((laidWorld os).forCall (fun _ _ => 0) ⟨#[], #[.slice none 0 0, .slice none 0 0, .bool false, .int .i64 0, .slice none 0 0, .slice none 0 0], []⟩).memory Tryz.f5.params.toList Rows.levelGrowsSpec.vars false #[.slice none 0 0, .slice none 0 0, .bool false, .int .i64 0, .slice none 0 0, .slice none 0 0].toList 8 = some ([.nil, .nil, .lit (.bool false), .lit (.int .i64 0), .nil, .nil], [], places) :=
 ⟨[], by kernel_rfl⟩
set_option maxRecDepth 100000 in
theorem liftedLevelGrows (os : Os) (started : os.Started) (H : Type) (enc : TypeId × Value → H) (F : Stop.Interp) :
  ReturnsInHanded {} Tryz.checked os 5 .any ((OpenSpec.ofChange Rows.levelGrowsSpec).preRow enc Tryz.prog Tryz.f5 Rows.levelGrowsRow.domain false Rows.levelGrowsRow.laid) (((OpenSpec.ofChange Rows.levelGrowsSpec).at F).post enc Tryz.prog Tryz.f5 false true false false) := by
 obtain ⟨places, hx⟩ := readsLevelGrows os enc
 refine returnsInHanded_of_row (C := Tryz.checked) (s := OpenSpec.ofChange Rows.levelGrowsSpec) own started (by kernel_rfl) Tryz.func5
  (witness_row_at (enc := enc) (C := Tryz.checked) false (laidWorld os) #[.slice none 0 0, .slice none 0 0, .bool false, .int .i64 0, .slice none 0 0, .slice none 0 0] rfl (by kernel_rfl) (by kernel_rfl) (by kernel_rfl)
   (OpenSpec.preRow_of_cond 8 hx (by kernel_rfl) (fun k hk => by cases hk) (by kernel_rfl) (laidWorld_met os _))) ?_
 intro W base args ds gs before hval hW _ _ hsz hL hsh _
 exact contractLevelGrows H enc W base args ds gs before hval hW hsz hL hsh
end Go.Proofs.YtjejpdfldmempaaGreatDoor
end
section
namespace Go.Proofs.YtjejpdfldmempaaGreatDoor
open Go.ChangeShapes Go.WideShapes Go.ChangeAt
theorem closedLevelGrows0 : (Rows.levelGrowsRow.wf (OpenSpec.ofChange (OpenSpec.ofChange Rows.levelGrowsSpec).bare)) = true := by kernel_rfl
theorem closedLevelGrows1 : (laidOutB Tryz.pinned.checked.prog) = true := by kernel_rfl
theorem closedLevelGrows2 : (mapsRowed Tryz.pinned.checked.prog) = true := by kernel_rfl
theorem closedLevelGrows3 : (Tryz.f5.params.all (Tryz.pinned.checked.prog.readableRec ·)) = true := by kernel_rfl
theorem closedLevelGrows4 : (namedTie Tryz.pinned.checked.prog Rows.levelGrowsRow.named (OpenSpec.ofChange Rows.levelGrowsSpec).bare.vars) = true := by kernel_rfl
theorem closedLevelGrows5 : ((Rows.levelGrowsRow.stops == [])) = true := by kernel_rfl
theorem closedLevelGrows6 : ((Tryz.pinned.checked.prog.stops == [])) = true := by kernel_rfl
theorem closedLevelGrows7 : ((Rows.levelGrowsRow.knobs == [])) = true := by kernel_rfl
theorem closedLevelGrows8 : ((Tryz.pinned.checked.prog.stopKnobs == [])) = true := by kernel_rfl
theorem closedLevelGrows9 : ((Rows.levelGrowsRow.inPlace == Tryz.pinned.checked.prog.inPlace 5)) = true := by kernel_rfl
theorem closedLevelGrows10 : ((Rows.levelGrowsRow.unfollowed == Tryz.pinned.checked.prog.unfollowed 5)) = true := by kernel_rfl
theorem closedLevelGrows11 : ((Rows.levelGrowsRow.recurses == Tryz.pinned.checked.prog.recurses 5)) = true := by kernel_rfl
theorem closedLevelGrows12 : ((Rows.levelGrowsRow.named == Tryz.pinned.checked.prog.varsNamed 5)) = true := by kernel_rfl
theorem closedLevelGrows13 : ((Rows.levelGrowsRow.maps == (Tryz.f5.params.toList ++ (OpenSpec.ofChange Rows.levelGrowsSpec).bare.plain.varTypes Tryz.pinned.checked.prog).any (Tryz.pinned.checked.prog.mapsRec ·))) = true := by kernel_rfl
theorem closedLevelGrows14 : ((Rows.levelGrowsRow.ifaces == (Tryz.f5.params.toList ++ (OpenSpec.ofChange Rows.levelGrowsSpec).bare.plain.varTypes Tryz.pinned.checked.prog).any (Tryz.pinned.checked.prog.ifacesRec ·))) = true := by kernel_rfl
theorem closedLevelGrows15 : ((Rows.levelGrowsRow.mapsOut == Tryz.pinned.checked.prog.mapsAmong Tryz.f5.resultTypes.toList)) = true := by kernel_rfl
theorem closedLevelGrows16 : ((Rows.levelGrowsRow.loops == (Tryz.f5.params.toList ++ (OpenSpec.ofChange Rows.levelGrowsSpec).bare.plain.varTypes Tryz.pinned.checked.prog).any (Tryz.pinned.checked.prog.loopsFrom ·))) = true := by kernel_rfl
theorem closedLevelGrows17 : ((Rows.levelGrowsRow.wideKeys == (Tryz.f5.params.toList ++ (OpenSpec.ofChange Rows.levelGrowsSpec).bare.plain.varTypes Tryz.pinned.checked.prog ++ Tryz.f5.resultTypes.toList).any (Tryz.pinned.checked.prog.wideKeysFrom ·))) = true := by kernel_rfl
theorem closedLevelGrows18 : ((OpenSpec.ofChange Rows.levelGrowsSpec).bare.vars.all (Tryz.pinned.checked.prog.varReadable ·)) = true := by kernel_rfl
theorem closedLevelGrows19 : (Tryz.f5.resultTypes.all (fun t => Tryz.pinned.checked.prog.readableRec t && decide (t < Tryz.pinned.checked.prog.types.size))) = true := by kernel_rfl
theorem closedLevelGrows20 : ((Rows.levelGrowsRow.ifacesOut == Tryz.f5.resultTypes.toList.any (Tryz.pinned.checked.prog.ifacesRec ·))) = true := by kernel_rfl
theorem closedLevelGrows21 : ((Rows.levelGrowsRow.loopsOut == Tryz.f5.resultTypes.toList.any (Tryz.pinned.checked.prog.loopsFrom ·))) = true := by kernel_rfl
theorem closedLevelGrows22 : ((Rows.levelGrowsRow.plainKeys == Tryz.pinned.checked.prog.plainKeys)) = true := by kernel_rfl
theorem closedLevelGrows23 : (Rows.levelGrowsRow.shortTexts.isNone) = true := by kernel_rfl
theorem closedLevelGrows24 : (Tryz.pinned.checked.prog.stopsHeard) = true := by kernel_rfl
theorem closedLevelGrows25 : (Tryz.pinned.checked.prog.mayEnter) = true := by kernel_rfl
theorem closedLevelGrows26 : ((Rows.levelGrowsRow.lifted == Tryz.pinned.checked.prog.liftsFinal)) = true := by kernel_rfl
theorem closedLevelGrows27 : ((Tryz.pinned.checked.prog.make == some Rows.levelGrowsRow.make)) = true := by kernel_rfl
theorem closedLevelGrows29 : ((Rows.levelGrowsRow.pinned == Rows.levelGrowsRow.pinnedBy)) = true := by kernel_rfl
theorem closedLevelGrows30 : ((Rows.levelGrowsRow.veiled == (Tryz.f5.params.toList ++ (OpenSpec.ofChange Rows.levelGrowsSpec).bare.plain.varTypes Tryz.pinned.checked.prog ++ Tryz.f5.resultTypes.toList).any (Tryz.pinned.checked.prog.veiledRec ·))) = true := by kernel_rfl
theorem closedLevelGrows31 : (Rows.levelGrowsRow.veiledFits Tryz.pinned.checked.prog Tryz.f5.params.toList (Tryz.f5.params.toList ++ (OpenSpec.ofChange Rows.levelGrowsSpec).bare.plain.varTypes Tryz.pinned.checked.prog ++ Tryz.f5.resultTypes.toList)) = true := by kernel_rfl
theorem closedLevelGrows : joinedFacts Tryz.pinned.checked.prog 5 Tryz.f5 (OpenSpec.ofChange Rows.levelGrowsSpec).bare Rows.levelGrowsRow = true := by
 unfold joinedFacts
 rw [closedLevelGrows0, closedLevelGrows1, closedLevelGrows2, closedLevelGrows3, closedLevelGrows4, closedLevelGrows5, closedLevelGrows6, closedLevelGrows7, closedLevelGrows8, closedLevelGrows9, closedLevelGrows10, closedLevelGrows11, closedLevelGrows12, closedLevelGrows13, closedLevelGrows14, closedLevelGrows15, closedLevelGrows16, closedLevelGrows17, closedLevelGrows18, closedLevelGrows19, closedLevelGrows20, closedLevelGrows21, closedLevelGrows22, closedLevelGrows23, closedLevelGrows24, closedLevelGrows25, closedLevelGrows26, closedLevelGrows27, closedLevelGrows29, closedLevelGrows30, closedLevelGrows31]
 simp only [Bool.true_and, Bool.and_true]
 kernel_rfl
end Go.Proofs.YtjejpdfldmempaaGreatDoor
end
