/- Merged: Lvq Pgo Pgq Lve. -/
import Derived.Test.YtaadeobcnamgdaaGreatDoorZabf
import Derived.Test.YtaadeobcnamgdaaGreatDoorZabe
import Derived.Test.YtaadeobcnamgdaaGreatDoorZaba
import Derived.Test.YtaadeobcnamgdaaGreatDoorZabb
import Derived.Test.YtaadeobcnamgdaaGreatDoorZabc
section
/- level: the walk: Keeps, Grow, All. -/
namespace Go.Proofs.YtaadeobcnamgdaaGreatDoor
open Go.Sx Go.RowKit Go.Reg Go.Gr

set_option maxRecDepth 100000
def listsS : ByteArray := ⟨#[108, 105, 115, 116, 115]⟩
/-- all levels, or too many -/
def allY (w : Gr) (ps : List Int → Bool) (D : Nat) (most : Int) : Da := if (sumP w ps D : Int) ≤ max most 0 then .tuple [.list 1 ((rowsP w ps D).map dLs), .nili] else .tuple [.nils, dF 13 0 listsS]
section
variable {G : Gr} {e : Bool} {d : Int} {l : List Opp}
theorem sumP_stop {w : Gr} {ps : List Int → Bool} {k : Nat} (h : rowP w ps k = []) : ∀ {D : Nat}, k ≤ D → sumP w ps D = sumP w ps k := by
  intro D hD
  induction D with
  | zero => rw [show k = 0 by omega]
  | succ D ih =>
    rcases Nat.lt_or_ge D k with hk | hk
    · rw [show D + 1 = k by omega]
    · rw [sumP_step, ih hk, rowP_empty h D hk]; rfl
def pl_lal : List (Nat × Plan) := []
def G_lal : List FuncId := [28, 49, 51]
theorem cok_lal : codeOk Tryz.prog G_lal pl_lal (Tryz.f14.body.getD .skip) = true := by kernel_rfl
theorem run_lal (vs : Array Value) (w : World) : (callFunc 14 vs).run C1.P w = .ok (.enter 14 vs) w := by kernel_rfl
theorem all_pure (h : JobOk G e d l) (most : Int) : Pure C1 14 [dJ G e d l, .int .i64 most] (fun z => z = allY (wordsG G e) (psJ G e l) d.toNat most) := by
  have hs := start_pure h
  have hw := words_pure h
  have hgr : ∀ X : List Int, X.length ≤ 900 → Pure C1 51 [dJ G e d l, dG (wordsG G e), dIs X] (fun z => z = dLs (growP (wordsG G e) (psJ G e l) X)) := fun X hX => lgrow_pure h X hX
  have hok := words_ok h.ok (by have := h.n; omega) h.m e
  have hsm := small_len h
  have hd := h.d
  clear h
  obtain ⟨D, rfl⟩ := Int.eq_ofNat_of_zero_le (show 0 ≤ d by omega)
  rw [Int.toNat_natCast]
  generalize wordsG G e = w at hs hw hgr hok hsm ⊢
  generalize psJ G e l = ps at hs hgr ⊢
  have hrl : ∀ k, (rowP w ps k).length ≤ 256 := fun k => Nat.le_trans (rowP_len hok ps k) (Nat.le_trans (Nat.pow_le_pow_right (by decide) hsm) (by decide))
  have hfew : ∀ m, m ≤ 8 → sumP w ps m ≤ 2048 := fun m hm => sumP_few hok ps hsm hm
  refine pure_of c1_ok (pl := pl_lal) (G := G_lal) Tryz.func14 rfl Tryz.ntmps14 run_lal cok_lal (by simp) ?_
  (conv => whnf)
  (repeat' ((first | refine ord_ok (by (conv => whnf); (repeat' ((first | refine call_eq rfl hs ?_ | refine call_eq rfl hw ?_ | refine ify ?_ | refine ifn ?_ | refine i6 ?_ | refine ati ?_ | refine mst ?_ | refine rmd ?_ | refine ibo (fun _ => ?_) (fun _ => ?_)) <;> conv => whnf)); (all_goals (repeat' (first | exact trivial | exact rfl | refine And.intro ?_ ?_)))) ?_ | refine call_eq rfl hs ?_ | refine call_eq rfl hw ?_ | refine ify ?_ | refine ifn ?_ | refine i6 ?_ | refine ati ?_ | refine mst ?_ | refine rmd ?_ | refine ibo (fun _ => ?_) (fun _ => ?_)) <;> conv => whnf))
  refine loop_lo (ι := Nat) (fun k => k < D ∧ (∀ j, j < k → rowP w ps j ≠ []) ∧ (sumP w ps k : Int) ≤ max most 0) (fun k => [(11, .d (.int .i64 (sumP w ps k : Nat))), (10, .own 300), (8, .d (dG w)), (6, .d (dLs (rowP w ps k))), (2, .own 2), (1, .d (.int .i64 most))]) (fun k => [(2, .cells 30 [.d (dG G), .d (.bool e), .d (.int .i64 (D : Int)), .d (dOs l)]), (300, .slice 45 1 (((List.range k).map (rowP w ps)).map dLs))]) (fun k => D - k) 0 (fun _ => rfl) ⟨by omega, fun j hj => absurd hj (Nat.not_lt_zero _), by rw [show sumP w ps 0 = 0 from rfl]; omega⟩
    (.own 10 300 45 1 rfl rfl (.refl _ _)) ⟨rfl, rfl, rfl, rfl, rfl, rfl, trivial⟩ ⟨rfl, rfl, trivial⟩ ?_
  rintro k ⟨hkD, hne, hsum⟩
  refine sxCode_sound c1_ok (G := G_lal) (pl := pl_lal) _ _ _ _ (by kernel_rfl) ?_
  have hRl := hrl k
  have hdl : ((rowP w ps k).map dIs).length = (rowP w ps k).length := List.length_map _
  have hk8 := hfew (k + 1) (by omega)
  have hst := sumP_step w ps k
  have hOl : (((List.range k).map (rowP w ps)).map dLs).length = k := by rw [List.length_map, List.length_map, List.length_range]
  have hrg : (List.range k).length = k := List.length_range
  have hO1 : ((List.range (k + 1)).map (rowP w ps)).map dLs = ((List.range k).map (rowP w ps)).map dLs ++ [dLs (rowP w ps k)] := by rw [List.range_succ, List.map_append, List.map_append]; rfl
  have hO2 : (((List.range k).map (rowP w ps)).map dLs ++ [dLs (rowP w ps k)]).length = k + 1 := by rw [List.length_append, hOl]; rfl
  by_cases hR : rowP w ps k = []
  · have eS := sumP_stop hR (Nat.le_of_lt hkD)
    have eR : rowsP w ps D = (List.range k).map (rowP w ps) := by rw [rowsP_stop hR (Nat.le_of_lt hkD), rowsP_full hne]
    unfold allY
    rw [eS, if_pos hsum, eR]
    rw [hR]
    have hd0 : (List.map dIs ([] : List (List Int))).length = 0 := rfl
    ((conv => whnf); repeat' ((first | refine odw ?_ | refine ify ?_ | refine ifn ?_ | refine i6 ?_ | refine ati ?_ | refine mst ?_ | refine rmd ?_ | refine ibo (fun _ => ?_) (fun _ => ?_)) <;> conv => whnf))
    exact rfl
  have hR0 : (rowP w ps k).length ≠ 0 := fun e => hR (List.eq_nil_of_length_eq_zero e)
  by_cases hm : (sumP w ps (k + 1) : Int) ≤ max most 0
  · by_cases hl : k + 1 = D
    · have eR : rowsP w ps D = (List.range (k + 1)).map (rowP w ps) := by
        rw [← hl]
        exact rowsP_full fun j hj => by
          rcases Nat.lt_or_ge j k with g | g
          · exact hne j g
          · rw [show j = k by omega]; exact hR
      unfold allY
      rw [if_pos (by rw [← hl]; exact hm), eR, hO1]
      ((conv => whnf); repeat' ((first | refine odw ?_ | refine ify ?_ | refine ifn ?_ | refine i6 ?_ | refine ati ?_ | refine mst ?_ | refine rmd ?_ | refine ibo (fun _ => ?_) (fun _ => ?_)) <;> conv => whnf))
      exact rfl
    · have hst2 : (sumP w ps k : Int) + (((rowP w ps k).map dIs).length : Int) = (sumP w ps (k + 1) : Nat) := by rw [hdl, hst]; omega
      have hpre : ∀ n, (((rowP w ps k).take n).flatMap (growP w ps)).length ≤ 256 := fun n => by
        have := hrl (k + 1)
        unfold rowP at this
        rw [← List.take_append_drop n (rowP w ps k), List.flatMap_append, List.length_append] at this
        omega
      have hxl : ∀ x ∈ rowP w ps k, x.length ≤ 900 := fun x hx => by
        have := ((mem_rowP hok k).1 hx).2.1
        omega
      ((conv => whnf); repeat' ((first | refine odw ?_ | refine ify ?_ | refine ifn ?_ | refine i6 ?_ | refine ati ?_ | refine mst ?_ | refine rmd ?_ | refine ibo (fun _ => ?_) (fun _ => ?_)) <;> conv => whnf))
      refine loop_lo (ι := Nat) (fun i => i ≤ (rowP w ps k).length) (fun i => [(51, .d (.int .i64 i)), (50, .d (.int .i64 ((rowP w ps k).map dIs).length)), (49, .d (dLs (rowP w ps k))), (12, .own 301), (11, .d (.int .i64 ((sumP w ps k : Int) + (((rowP w ps k).map dIs).length : Int)))), (10, .own 300), (8, .d (dG w)), (2, .own 2), (1, .d (.int .i64 most))]) (fun i => [(2, .cells 30 [.d (dG G), .d (.bool e), .d (.int .i64 (D : Int)), .d (dOs l)]), (300, .slice 45 1 (((List.range k).map (rowP w ps)).map dLs ++ [dLs (rowP w ps k)])), (301, .slice 22 1 ((((rowP w ps k).take i).flatMap (growP w ps)).map dIs))]) (fun i => (rowP w ps k).length - i) 0 (fun _ => rfl) (Nat.zero_le _)
        (.own 12 301 22 1 rfl rfl (.refl _ _)) ⟨rfl, rfl, rfl, rfl, rfl, rfl, rfl, rfl, rfl, trivial⟩ ⟨rfl, rfl, rfl, trivial⟩ ?_
      intro i hi
      refine sxCode_sound c1_ok (G := G_lal) (pl := pl_lal) _ _ _ _ (by kernel_rfl) ?_
      by_cases hil : i < (rowP w ps k).length
      · have hx := List.getElem?_eq_getElem hil
        have hg := hgr _ (hxl _ (List.getElem_mem hil))
        generalize (rowP w ps k)[i] = x at hx hg
        have hxd : ((rowP w ps k).map dIs)[i]? = some (dIs x) := by rw [List.getElem?_map, hx]; rfl
        have hstp : ((rowP w ps k).take (i + 1)).flatMap (growP w ps) = ((rowP w ps k).take i).flatMap (growP w ps) ++ growP w ps x := by rw [List.take_add_one, hx, Option.toList_some, List.flatMap_append]; simp
        have h1 := hpre i
        have h2 := hpre (i + 1)
        rw [hstp, List.length_append] at h2
        have hfin : (((rowP w ps k).take i).flatMap (growP w ps)).map dIs ++ (growP w ps x).map dIs = (((rowP w ps k).take (i + 1)).flatMap (growP w ps)).map dIs := by rw [hstp, List.map_append]
        have hml : ((((rowP w ps k).take i).flatMap (growP w ps)).map dIs).length + ((growP w ps x).map dIs).length ≤ 4294967296 := by rw [List.length_map, List.length_map]; omega
        (conv => whnf)
        (repeat' ((first | refine ord_ok (by (conv => whnf); (repeat' ((first | refine at_da hxd rfl ?_ | refine call_eq rfl hg ?_ | refine most_ok hml ?_ | refine ify ?_ | refine ifn ?_ | refine i6 ?_ | refine ati ?_ | refine mst ?_ | refine rmd ?_ | refine ibo (fun _ => ?_) (fun _ => ?_)) <;> conv => whnf)); (all_goals (repeat' (first | exact trivial | exact rfl | refine And.intro ?_ ?_)))) ?_ | refine at_da hxd rfl ?_ | refine call_eq rfl hg ?_ | refine most_ok hml ?_ | refine ify ?_ | refine ifn ?_ | refine i6 ?_ | refine ati ?_ | refine mst ?_ | refine rmd ?_ | refine ibo (fun _ => ?_) (fun _ => ?_)) <;> conv => whnf))
        exact ⟨i + 1, _, _, hil, .refl _ _, ⟨rfl, rfl, rfl, rfl, rfl, rfl, rfl, rfl, rfl, trivial⟩, ⟨rfl, rfl, slice_is hfin, trivial⟩, by omega⟩
      · have hii : (rowP w ps k).take i = rowP w ps k := List.take_of_length_le (by omega)
        rw [hii]
        ((conv => whnf); repeat' ((first | refine odw ?_ | refine ify ?_ | refine ifn ?_ | refine i6 ?_ | refine ati ?_ | refine mst ?_ | refine rmd ?_ | refine ibo (fun _ => ?_) (fun _ => ?_)) <;> conv => whnf))
        refine ⟨k + 1, _, _, ⟨by omega, fun j hj => ?_, hm⟩, .frz 301 rfl (.refl _ _), ⟨congrArg (fun z => Dat.d (.int .i64 z)) hst2, rfl, rfl, rfl, rfl, rfl, trivial⟩, ⟨rfl, slice_is hO1.symm, trivial⟩, by omega⟩
        rcases Nat.lt_or_ge j k with g | g
        · exact hne j g
        · rw [show j = k by omega]; exact hR
  · have hbig := sumP_mono w ps (show k + 1 ≤ D from hkD)
    unfold allY
    rw [if_neg (by omega)]
    (conv => whnf)
    (repeat' ((first | refine ord_ok (by (conv => whnf); (repeat' ((first | refine call_eq rfl (fnew_pure 13 0 listsS) ?_ | refine ify ?_ | refine ifn ?_ | refine i6 ?_ | refine ati ?_ | refine mst ?_ | refine rmd ?_ | refine ibo (fun _ => ?_) (fun _ => ?_)) <;> conv => whnf)); (all_goals (repeat' (first | exact trivial | exact rfl | refine And.intro ?_ ?_)))) ?_ | refine call_eq rfl (fnew_pure 13 0 listsS) ?_ | refine ify ?_ | refine ifn ?_ | refine i6 ?_ | refine ati ?_ | refine mst ?_ | refine rmd ?_ | refine ibo (fun _ => ?_) (fun _ => ?_)) <;> conv => whnf))
    exact rfl
end
end Go.Proofs.YtaadeobcnamgdaaGreatDoor
end

section
/- ref17: takes, Fault, Right. -/
namespace Go.Proofs.YtaadeobcnamgdaaGreatDoor
open Go.Sx Go.RowKit Go.Reg Go.Gr

set_option maxRecDepth 100000
def pl_rgt : List (Nat × Plan) := []
def G_rgt : List FuncId := []
theorem cok_rgt : codeOk Tryz.prog G_rgt pl_rgt (Tryz.f149.body.getD .skip) = true := by kernel_rfl
theorem run_rgt (vs : Array Value) (w : World) : (callFunc 149 vs).run C1.P w = .ok (.enter 149 vs) w := by kernel_rfl
theorem rtakes_pure (k : Int) : Pure C1 149 [.int .i64 k] (fun y => y = .bool (takesO k)) := by
  refine pure_of c1_ok (pl := pl_rgt) (G := G_rgt) Tryz.func149 rfl Tryz.ntmps149 run_rgt cok_rgt (by simp) ?_
  by_cases h1 : k = 1
  · subst h1; ((conv => whnf); repeat' ((first | refine odw ?_ | refine ify ?_ | refine ifn ?_ | refine i6 ?_ | refine ati ?_ | refine mst ?_ | refine rmd ?_ | refine ibo (fun _ => ?_) (fun _ => ?_)) <;> conv => whnf)); exact rfl
  by_cases h6 : k = 6
  · subst h6; ((conv => whnf); repeat' ((first | refine odw ?_ | refine ify ?_ | refine ifn ?_ | refine i6 ?_ | refine ati ?_ | refine mst ?_ | refine rmd ?_ | refine ibo (fun _ => ?_) (fun _ => ?_)) <;> conv => whnf)); exact rfl
  by_cases h8 : k = 8
  · subst h8; ((conv => whnf); repeat' ((first | refine odw ?_ | refine ify ?_ | refine ifn ?_ | refine i6 ?_ | refine ati ?_ | refine mst ?_ | refine rmd ?_ | refine ibo (fun _ => ?_) (fun _ => ?_)) <;> conv => whnf)); exact rfl
  have e : takesO k = true := by unfold takesO; simp [h1, h6, h8]
  rw [e]
  ((conv => whnf); repeat' ((first | refine odw ?_ | refine ify ?_ | refine ifn ?_ | refine i6 ?_ | refine ati ?_ | refine mst ?_ | refine rmd ?_ | refine ibo (fun _ => ?_) (fun _ => ?_)) <;> conv => whnf))
  all_goals exact congrArg Da.bool (decide_eq_true h8)
def pl_rgf : List (Nat × Plan) := []
def G_rgf : List FuncId := [149]
theorem cok_rgf : codeOk Tryz.prog G_rgf pl_rgf (Tryz.f102.body.getD .skip) = true := by kernel_rfl
theorem run_rgf (vs : Array Value) (w : World) : (callFunc 102 vs).run C1.P w = .ok (.enter 102 vs) w := by kernel_rfl
theorem rfault_pure (o : Opp) : Pure C1 102 [dO o] (fun y => y = .int .i64 (codeO o)) := by
  have ht := rtakes_pure o.kind
  refine pure_of c1_ok (pl := pl_rgf) (G := G_rgf) Tryz.func102 rfl Tryz.ntmps102 run_rgf cok_rgf (by simp) ?_
  by_cases hk : o.kind < 1 ∨ 8 < o.kind
  · have e : codeO o = 1 := by unfold codeO; rw [if_pos hk]
    rw [e]
    (conv => whnf)
    (repeat' ((first | refine ord_ok (by (conv => whnf); (repeat' ((first | refine call_eq rfl ht ?_ | refine ify ?_ | refine ifn ?_ | refine i6 ?_ | refine ati ?_ | refine mst ?_ | refine rmd ?_ | refine ibo (fun _ => ?_) (fun _ => ?_)) <;> conv => whnf)); (all_goals (repeat' (first | exact trivial | exact rfl | refine And.intro ?_ ?_)))) ?_ | refine call_eq rfl ht ?_ | refine ify ?_ | refine ifn ?_ | refine i6 ?_ | refine ati ?_ | refine mst ?_ | refine rmd ?_ | refine ibo (fun _ => ?_) (fun _ => ?_)) <;> conv => whnf))
    all_goals first | exact rfl | (exfalso; omega)
  · by_cases hr : o.n < 0 ∨ 255 < o.n ∨ 0 < o.n ∧ takesO o.kind = false
    · have e : codeO o = 3 := by unfold codeO; rw [if_neg hk, if_pos hr]
      rw [e]
      cases htk : takesO o.kind <;> rw [htk] at ht hr <;>
      · (conv => whnf)
        (repeat' ((first | refine ord_ok (by (conv => whnf); (repeat' ((first | refine call_eq rfl ht ?_ | refine ify ?_ | refine ifn ?_ | refine i6 ?_ | refine ati ?_ | refine mst ?_ | refine rmd ?_ | refine ibo (fun _ => ?_) (fun _ => ?_)) <;> conv => whnf)); (all_goals (repeat' (first | exact trivial | exact rfl | refine And.intro ?_ ?_)))) ?_ | refine call_eq rfl ht ?_ | refine ify ?_ | refine ifn ?_ | refine i6 ?_ | refine ati ?_ | refine mst ?_ | refine rmd ?_ | refine ibo (fun _ => ?_) (fun _ => ?_)) <;> conv => whnf))
        all_goals first | exact rfl | (exfalso; simp at hr; omega) | (exfalso; omega)
    · have e : codeO o = 0 := by unfold codeO; rw [if_neg hk, if_neg hr]
      rw [e]
      cases htk : takesO o.kind <;> rw [htk] at ht hr <;>
      · (conv => whnf)
        (repeat' ((first | refine ord_ok (by (conv => whnf); (repeat' ((first | refine call_eq rfl ht ?_ | refine ify ?_ | refine ifn ?_ | refine i6 ?_ | refine ati ?_ | refine mst ?_ | refine rmd ?_ | refine ibo (fun _ => ?_) (fun _ => ?_)) <;> conv => whnf)); (all_goals (repeat' (first | exact trivial | exact rfl | refine And.intro ?_ ?_)))) ?_ | refine call_eq rfl ht ?_ | refine ify ?_ | refine ifn ?_ | refine i6 ?_ | refine ati ?_ | refine mst ?_ | refine rmd ?_ | refine ibo (fun _ => ?_) (fun _ => ?_)) <;> conv => whnf))
        all_goals first | exact rfl | (exfalso; simp at hr; omega) | (exfalso; omega)
def pl_rgr : List (Nat × Plan) := []
def G_rgr : List FuncId := [102]
theorem cok_rgr : codeOk Tryz.prog G_rgr pl_rgr (Tryz.f47.body.getD .skip) = true := by kernel_rfl
theorem run_rgr (vs : Array Value) (w : World) : (callFunc 47 vs).run C1.P w = .ok (.enter 47 vs) w := by kernel_rfl
theorem rright17_pure (l : List Opp) (hm : l.length ≤ 9223372036854775807) : Pure C1 47 [dOs l] (fun y => (y = .tuple [.int .i64 0, .int .i64 0] ∧ l.length ≤ 16 ∧ ∀ o ∈ l, codeO o = 0) ∨ ∃ c i : Int, c ≠ 0 ∧ y = .tuple [.int .i64 c, .int .i64 i]) := by
  have hl : (l.map dO).length = l.length := List.length_map _
  refine pure_of c1_ok (pl := pl_rgr) (G := G_rgr) Tryz.func47 rfl Tryz.ntmps47 run_rgr cok_rgr (by simp) ?_
  by_cases h16 : 16 < l.length
  · ((conv => whnf); repeat' ((first | refine odw ?_ | refine ify ?_ | refine ifn ?_ | refine i6 ?_ | refine ati ?_ | refine mst ?_ | refine rmd ?_ | refine ibo (fun _ => ?_) (fun _ => ?_)) <;> conv => whnf))
    exact .inr ⟨6, 0, by decide, rfl⟩
  ((conv => whnf); repeat' ((first | refine odw ?_ | refine ify ?_ | refine ifn ?_ | refine i6 ?_ | refine ati ?_ | refine mst ?_ | refine rmd ?_ | refine ibo (fun _ => ?_) (fun _ => ?_)) <;> conv => whnf))
  refine loop_lo (ι := Nat) (fun i => i ≤ l.length ∧ ∀ y ∈ l.take i, codeO y = 0) (fun i => [(4, .d (.int .i64 i)), (0, .d (dOs l))]) (fun _ => []) (fun i => l.length - i) 0 (fun _ => rfl) ⟨Nat.zero_le _, by simp⟩ (.refl _ _) ⟨rfl, rfl, trivial⟩ trivial ?_
  rintro i ⟨hi, hne⟩
  refine sxCode_sound c1_ok (G := G_rgr) (pl := pl_rgr) _ _ _ _ (by kernel_rfl) ?_
  by_cases hlt : i < l.length
  · have hx := List.getElem?_eq_getElem hlt
    generalize l[i] = y at hx
    have hxd : (l.map dO)[i]? = some (.agg [.int .i64 y.kind, .int .i64 y.n]) := by rw [List.getElem?_map, hx]; rfl
    have hf := rfault_pure y
    by_cases hy : codeO y = 0
    · rw [hy] at hf
      (conv => whnf)
      (repeat' ((first | refine ord_ok (by (conv => whnf); (repeat' ((first | refine at_da hxd rfl ?_ | refine call_eq rfl hf ?_ | refine ify ?_ | refine ifn ?_ | refine i6 ?_ | refine ati ?_ | refine mst ?_ | refine rmd ?_ | refine ibo (fun _ => ?_) (fun _ => ?_)) <;> conv => whnf)); (all_goals (repeat' (first | exact trivial | exact rfl | refine And.intro ?_ ?_)))) ?_ | refine at_da hxd rfl ?_ | refine call_eq rfl hf ?_ | refine ify ?_ | refine ifn ?_ | refine i6 ?_ | refine ati ?_ | refine mst ?_ | refine rmd ?_ | refine ibo (fun _ => ?_) (fun _ => ?_)) <;> conv => whnf))
      refine ⟨i + 1, _, _, ⟨hlt, ?_⟩, .refl _ _, ⟨rfl, rfl, trivial⟩, trivial, by omega⟩
      intro z hz
      rw [List.take_add_one, hx] at hz
      rcases List.mem_append.1 hz with hz | hz
      · exact hne z hz
      · simp at hz; subst hz; exact hy
    · (conv => whnf)
      (repeat' ((first | refine ord_ok (by (conv => whnf); (repeat' ((first | refine at_da hxd rfl ?_ | refine call_eq rfl hf ?_ | refine ify ?_ | refine ifn ?_ | refine i6 ?_ | refine ati ?_ | refine mst ?_ | refine rmd ?_ | refine ibo (fun _ => ?_) (fun _ => ?_)) <;> conv => whnf)); (all_goals (repeat' (first | exact trivial | exact rfl | refine And.intro ?_ ?_)))) ?_ | refine at_da hxd rfl ?_ | refine call_eq rfl hf ?_ | refine ify ?_ | refine ifn ?_ | refine i6 ?_ | refine ati ?_ | refine mst ?_ | refine rmd ?_ | refine ibo (fun _ => ?_) (fun _ => ?_)) <;> conv => whnf))
      exact .inr ⟨_, _, hy, rfl⟩
  · have hii : l.take i = l := List.take_of_length_le (by omega)
    rw [hii] at hne
    ((conv => whnf); repeat' ((first | refine odw ?_ | refine ify ?_ | refine ifn ?_ | refine i6 ?_ | refine ati ?_ | refine mst ?_ | refine rmd ?_ | refine ibo (fun _ => ?_) (fun _ => ?_)) <;> conv => whnf))
    exact .inl ⟨rfl, by omega, hne⟩
end Go.Proofs.YtaadeobcnamgdaaGreatDoor
end

section
/- law17.Of. -/
namespace Go.Proofs.YtaadeobcnamgdaaGreatDoor
open Go.Sx Go.RowKit Go.Reg Go.Gr

set_option maxRecDepth 100000
def pl_l7of : List (Nat × Plan) := []
def G_l7of : List FuncId := []
theorem cok_l7of : codeOk Tryz.prog G_l7of pl_l7of (Tryz.f11.body.getD .skip) = true := by kernel_rfl
theorem run_l7of (vs : Array Value) (w : World) : (callFunc 11 vs).run C1.P w = .ok (.enter 11 vs) w := by kernel_rfl
theorem law17of_pure (l : List Opp) (hm : l.length ≤ 8796093022207) : Pure C1 11 [dOs l] (fun y => y = dOs l) := by
  have hel : (l.map dO).length = l.length := List.length_map _
  refine pure_of c1_ok (pl := pl_l7of) (G := G_l7of) Tryz.func11 rfl Tryz.ntmps11 run_l7of cok_l7of (by simp) ?_
  ((conv => whnf); repeat' ((first | refine odw ?_ | refine ify ?_ | refine ifn ?_ | refine i6 ?_ | refine ati ?_ | refine mst ?_ | refine rmd ?_ | refine ibo (fun _ => ?_) (fun _ => ?_)) <;> conv => whnf))
  refine loop_lo (ι := Nat) (fun i => i ≤ l.length) (fun i => [(4, .d (.int .i64 i)), (3, .own 300), (0, .d (dOs l))]) (fun i => [(300, .slice 108 2 ((l.take i).map dO))]) (fun i => l.length - i) 0 (fun _ => rfl) (Nat.zero_le _)
    (.own 3 300 108 2 rfl rfl (.refl _ _)) ⟨rfl, rfl, rfl, trivial⟩ ⟨rfl, trivial⟩ ?_
  intro i hi
  refine sxCode_sound c1_ok (G := G_l7of) (pl := pl_l7of) _ _ _ _ (by kernel_rfl) ?_
  by_cases hlt : i < l.length
  · have hx := List.getElem?_eq_getElem hlt
    generalize l[i] = e at hx
    have hxd : (l.map dO)[i]? = some (dO e) := by rw [List.getElem?_map, hx]; rfl
    have htl : ((l.take i).map dO).length = i := by rw [List.length_map, List.length_take]; omega
    have hfin : (l.take i).map dO ++ [dO e] = (l.take (i + 1)).map dO := by rw [List.take_add_one, hx, Option.toList_some, List.map_append]; rfl
    generalize (l.take i).map dO = Z at htl hfin ⊢
    (conv => whnf)
    (repeat' ((first | refine ord_ok (by (conv => whnf); (repeat' ((first | refine at_da hxd rfl ?_ | refine most16 (by simp only [List.length_cons, List.length_nil]; omega) ?_ | refine ify ?_ | refine ifn ?_ | refine i6 ?_ | refine ati ?_ | refine mst ?_ | refine rmd ?_ | refine ibo (fun _ => ?_) (fun _ => ?_)) <;> conv => whnf)); (all_goals (repeat' (first | exact trivial | exact rfl | refine And.intro ?_ ?_)))) ?_ | refine at_da hxd rfl ?_ | refine most16 (by simp only [List.length_cons, List.length_nil]; omega) ?_ | refine ify ?_ | refine ifn ?_ | refine i6 ?_ | refine ati ?_ | refine mst ?_ | refine rmd ?_ | refine ibo (fun _ => ?_) (fun _ => ?_)) <;> conv => whnf))
    exact ⟨i + 1, _, _, hlt, .refl _ _, ⟨rfl, rfl, rfl, trivial⟩, ⟨slice_is hfin, trivial⟩, by omega⟩
  · have hii : l.take i = l := List.take_of_length_le (by omega)
    rw [hii]
    ((conv => whnf); repeat' ((first | refine odw ?_ | refine ify ?_ | refine ifn ?_ | refine i6 ?_ | refine ati ?_ | refine mst ?_ | refine rmd ?_ | refine ibo (fun _ => ?_) (fun _ => ?_)) <;> conv => whnf))
    exact rfl
end Go.Proofs.YtaadeobcnamgdaaGreatDoor
end

section
/- level: the chapter's example: a triangle's levels. -/
namespace Go.Proofs.YtaadeobcnamgdaaGreatDoor
open Go.Gr
def triG : Gr := ⟨[0, 0, 0], [⟨0, 1⟩, ⟨0, 2⟩, ⟨1, 2⟩]⟩
theorem tri_canon : canon triG.edges = triG.edges := (canon_eq (by decide) (by decide) (by decide)).symm
theorem tri_err : newErr triG.labels triG.edges = none := by decide
theorem tri_ok : triG.Ok := by
  have := canon_ok tri_err
  rwa [tri_canon] at this
theorem grow_comp {G : Gr} (hG : G.Ok) (l : List Int) : growV G l = if canonV G l = true then (rnextV G l G.labels.length).filter (fitsV G l) else [] := by
  unfold growV
  rw [rnext_eq hG]
theorem tri_ps {x : List Int} (h : linkedV triG x = true) (h8 : x.length ≤ 8) : psJ triG false [] x = true := by
  unfold psJ wordsG
  rw [if_neg (by decide), h, if_neg (by decide), decide_eq_true h8]
  unfold keepsG
  rw [jvert_err tri_ok h8 h]; rfl
theorem tri_row0 : rowP triG (psJ triG false []) 0 = [[0], [1], [2]] := by
  show ([[0], [1], [2]] : List (List Int)).filter _ = _
  refine List.filter_eq_self.2 fun x hx => tri_ps ?_ ?_
  · revert x; decide
  · revert x; decide
theorem tri_grow {l : List Int} {r : List (List Int)} (h : ((if canonV triG l = true then (rnextV triG l 3).filter (fitsV triG l) else []).map fun v => l ++ [v]) = r) (hr : ∀ x ∈ r, linkedV triG x = true ∧ x.length ≤ 8) : growP triG (psJ triG false []) l = r := by
  unfold growP growL
  rw [grow_comp tri_ok]
  rw [show triG.labels.length = 3 from rfl, h]
  exact List.filter_eq_self.2 fun x hx => tri_ps (hr x hx).1 (hr x hx).2
theorem tri_row1 : rowP triG (psJ triG false []) 1 = [[0, 1], [0, 2], [1, 2]] := by
  show (rowP triG (psJ triG false []) 0).flatMap _ = _
  rw [tri_row0, List.flatMap_cons, List.flatMap_cons, List.flatMap_cons, List.flatMap_nil]
  rw [tri_grow (l := [0]) (r := [[0, 1], [0, 2]]) (by decide) (by decide), tri_grow (l := [1]) (r := [[1, 2]]) (by decide) (by decide), tri_grow (l := [2]) (r := []) (by decide) (by decide)]; rfl
theorem tri_row2 : rowP triG (psJ triG false []) 2 = [[0, 1, 2]] := by
  show (rowP triG (psJ triG false []) 1).flatMap _ = _
  rw [tri_row1, List.flatMap_cons, List.flatMap_cons, List.flatMap_cons, List.flatMap_nil]
  rw [tri_grow (l := [0, 1]) (r := [[0, 1, 2]]) (by decide) (by decide), tri_grow (l := [0, 2]) (r := []) (by decide) (by decide), tri_grow (l := [1, 2]) (r := []) (by decide) (by decide)]; rfl
theorem tri_rows : rowsP triG (psJ triG false []) 3 = [[[0], [1], [2]], [[0, 1], [0, 2], [1, 2]], [[0, 1, 2]]] := by
  rw [rowsP_full]
  · show [rowP _ _ 0, rowP _ _ 1, rowP _ _ 2] = _
    rw [tri_row0, tri_row1, tri_row2]
  · intro k hk
    have : k = 0 ∨ k = 1 ∨ k = 2 := by omega
    rcases this with rfl | rfl | rfl
    · rw [tri_row0]; simp
    · rw [tri_row1]; simp
    · rw [tri_row2]; simp
end Go.Proofs.YtaadeobcnamgdaaGreatDoor
end
