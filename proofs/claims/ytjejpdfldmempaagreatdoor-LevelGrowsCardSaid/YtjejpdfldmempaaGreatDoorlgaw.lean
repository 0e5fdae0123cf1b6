/- Merged: Pmk Pmg Lnm Qtp Lst Scp Str Num Gvr Ptx. -/
import Derived.Test.YtjejpdfldmempaaGreatDoorOen
import Derived.Test.YtjejpdfldmempaaGreatDoorlgaf
import Derived.Test.YtjejpdfldmempaaGreatDoorlgao
import Derived.Test.YtjejpdfldmempaaGreatDoorlgav
import Derived.Test.YtjejpdfldmempaaGreatDoorlgau
import Derived.Test.YtjejpdfldmempaaGreatDoorlgag
import Derived.Test.YtjejpdfldmempaaGreatDoorlgap
import Derived.Shelf.Strings.OnBuilder
import Derived.Shelf.Strconv.Itoa3
import Derived.Test.YtjejpdfldmempaaGreatDoorRows
import Derived.Lib.ItoaNum
import Derived.Lib.AtoiAll
import Derived.Lib.IndexMore
import Derived.Test.YtjejpdfldmempaaGreatDoorSxu
import Derived.Test.YtjejpdfldmempaaGreatDoorCtx
import Derived.Lib.LaidTab
import Derived.Lib.Join
section
namespace Go.Gr
def colF (f : Nat → Nat → Bool) (i k : Nat) : List Edg := ((List.range k).filter fun x => f x i).map fun x : Nat => ⟨(x : Int), (i : Int)⟩
def colsF (f : Nat → Nat → Bool) (n : Nat) : List Edg := (List.range n).flatMap fun i => colF f i i
theorem colF_step (f : Nat → Nat → Bool) (i k : Nat) : colF f i (k + 1) = colF f i k ++ if f k i then [⟨(k : Int), (i : Int)⟩] else [] := by
 unfold colF
 rw [List.range_succ, List.filter_append, List.map_append]
 congr 1
 by_cases hf : f k i <;> simp [hf]
theorem colsF_step (f : Nat → Nat → Bool) (n : Nat) : colsF f (n + 1) = colsF f n ++ colF f n n := by simp [colsF, List.range_succ]
theorem colF_len (f : Nat → Nat → Bool) (i k : Nat) : (colF f i k).length ≤ k := by
 unfold colF
 rw [List.length_map]
 exact Nat.le_trans (List.length_filter_le _ _) (by simp)
theorem colsF_len (f : Nat → Nat → Bool) : ∀ n, (colsF f n).length ≤ n * n
 | 0 => by simp [colsF]
 | n + 1 => by
   have h1 := colsF_len f n
   have h2 := colF_len f n n
   rw [colsF_step, List.length_append, Nat.mul_add, Nat.add_mul]; omega
def adjF (E : List Edg) (l : List Int) (k i : Nat) : Bool := decide (turn ⟨(l[k]?).getD 0, (l[i]?).getD 0⟩ ∈ E)
end Go.Gr
namespace Go.Proofs.YtjejpdfldmempaaGreatDoor
open Go.Sx Go.RowKit Go.Reg Go.Gr
set_option maxRecDepth 100000
def listS : ByteArray := ⟨#[108, 105, 115, 116]⟩
def dP0 : Da := .agg [.nils, .nils]
def pl_qlb : List (Nat × Plan) := []
def G_qlb : List FuncId := [195]
theorem cok_qlb : codeOk Tryz.prog G_qlb pl_qlb (Tryz.f130.body.getD .skip) = true := by kernel_rfl
theorem run_qlb (vs : Array Value) (w : World) : (callFunc 130 vs).run C1.P w = .ok (.enter 130 vs) w := by kernel_rfl
theorem qlabels_pure (G : Gr) (l : List Int) (hl : l.length ≤ 100000) : Pure C1 130 [dG G, dIs l] (fun y => y = dIs (l.map (labelV G))) := by
 have hdl : (l.map dI).length = l.length := List.length_map _
 refine pure_of c1_ok (pl := pl_qlb) (G := G_qlb) Tryz.func130 rfl Tryz.ntmps130 run_qlb cok_qlb (by simp) ?_
 ((conv => whnf); repeat' ((first | refine odw ?_ | refine ify ?_ | refine ifn ?_ | refine i6 ?_ | refine ati ?_ | refine mst ?_ | refine rmd ?_ | refine ibo (fun _ => ?_) (fun _ => ?_)) <;> conv => whnf))
 refine loop_lo (ι := Nat) (fun i => i ≤ l.length) (fun i => [(10, .d (.int .i64 i)), (9, .d (.int .i64 l.length)), (8, .d (dIs l)), (5, .own 300), (0, .d (dG G))]) (fun i => [(300, .slice 3 1 (((l.take i).map (labelV G)).map dI))]) (fun i => l.length - i) 0 (fun _ => rfl) (Nat.zero_le _) (.own 5 300 3 1 rfl rfl (.refl _ _)) ⟨rfl, by rw [← hdl]; rfl, rfl, rfl, rfl, trivial⟩ ⟨rfl, trivial⟩ ?_
 intro i hi
 refine sxCode_sound c1_ok (G := G_qlb) (pl := pl_qlb) _ _ _ _ (by kernel_rfl) ?_
 by_cases hil : i < l.length
 ·have hx := List.getElem?_eq_getElem hil
  generalize l[i] = x at hx
  have hxd : (l.map dI)[i]? = some (.int .i64 x) := by rw [List.getElem?_map, hx]; rfl
  have hlb := label_pure G x
  have hll : (((l.take i).map (labelV G)).map dI).length = i := by simp only [List.length_map, List.length_take]; omega
  (conv => whnf)
  (repeat' ((first | refine ord_ok ?_ ?_ | refine at_da hxd rfl ?_ | refine call_eqb tab rfl hlb rfl ?_ | refine ify ?_ | refine ifn ?_ | refine i6 ?_ | refine ati ?_ | refine mst ?_ | refine rmd ?_ | refine ibo (fun _ => ?_) (fun _ => ?_) | exact oend) <;> conv => whnf))
  refine ⟨i + 1, _, _, by omega, .refl _ _, ⟨rfl, rfl, rfl, rfl, rfl, trivial⟩, ⟨slice_is ?_, trivial⟩, by omega⟩
  rw [List.take_add_one, hx]; simp [dI]
 ·have e : l.take i = l := List.take_of_length_le (by omega)
  rw [e]
  ((conv => whnf); repeat' ((first | refine odw ?_ | refine ify ?_ | refine ifn ?_ | refine i6 ?_ | refine ati ?_ | refine mst ?_ | refine rmd ?_ | refine ibo (fun _ => ?_) (fun _ => ?_)) <;> conv => whnf))
  exact rfl
def pl_qvt : List (Nat × Plan) := []
def G_qvt : List FuncId := [131, 132, 130, 129]
theorem cok_qvt : codeOk Tryz.prog G_qvt pl_qvt (Tryz.f84.body.getD .skip) = true := by kernel_rfl
theorem run_qvt (vs : Array Value) (w : World) : (callFunc 84 vs).run C1.P w = .ok (.enter 84 vs) w := by kernel_rfl
set_option maxHeartbeats 4000000 in
theorem qvert_pure (G : Gr) (hG : G.Ok) (l : List Int) (q : Pt) (hmk : l.length ≤ 8 → linkedV G l = true → Pure C1 129 [dIs (l.map (labelV G)), dEs (colsF (adjF G.edges l) l.length)] (fun y => y = .tuple [dPt q, .nili])) (hm : l.length ≤ 9000000000000000000) :
  Pure C1 84 [dG G, dIs l] (fun y => y = if 8 < l.length then .tuple [dP0, dF 6 0 listS] else if linkedV G l = false then .tuple [dP0, dF 2 0 listS] else .tuple [dPt q, .nili]) := by
 have hdl : (l.map dI).length = l.length := List.length_map _
 have hlk := linked_pure G hG l
 refine pure_of c1_ok (pl := pl_qvt) (G := G_qvt) Tryz.func84 rfl Tryz.ntmps84 run_qvt cok_qvt (by simp) ?_
 by_cases h8 : 8 < l.length
 ·rw [if_pos h8]
  (conv => whnf)
  (repeat' ((first | refine ord_ok ?_ ?_ | refine call_eq rfl (fnew_pure 6 0 listS) ?_ | refine ify ?_ | refine ifn ?_ | refine i6 ?_ | refine ati ?_ | refine mst ?_ | refine rmd ?_ | refine ibo (fun _ => ?_) (fun _ => ?_) | exact oend) <;> conv => whnf))
  exact rfl
 rw [if_neg h8]
 cases hl : linkedV G l with
 | false =>
   rw [hl] at hlk
   rw [if_pos rfl]
   (conv => whnf)
   (repeat' ((first | refine ord_ok ?_ ?_ | refine call_eq rfl hlk ?_ | refine call_eq rfl (fnew_pure 2 0 listS) ?_ | refine ify ?_ | refine ifn ?_ | refine i6 ?_ | refine ati ?_ | refine mst ?_ | refine rmd ?_ | refine ibo (fun _ => ?_) (fun _ => ?_) | exact oend) <;> conv => whnf))
   exact rfl
 | true =>
   rw [hl] at hlk
   rw [if_neg (by decide)]
   have hmk := hmk (by omega) hl
   have hql := qlabels_pure G l (by omega)
   have hcl := colsF_len (adjF G.edges l)
   have hsq : l.length * l.length ≤ 8 * 8 := Nat.mul_le_mul (by omega) (by omega)
   (conv => whnf)
   (repeat' ((first | refine ord_ok ?_ ?_ | refine call_eq rfl hlk ?_ | refine ify ?_ | refine ifn ?_ | refine i6 ?_ | refine ati ?_ | refine mst ?_ | refine rmd ?_ | refine ibo (fun _ => ?_) (fun _ => ?_) | exact oend) <;> conv => whnf))
   refine loop_lo (ι := Nat) (fun i => i ≤ l.length) (fun i => [(26, .d (.int .i64 i)), (25, .d (.int .i64 l.length)), (24, .d (dIs l)), (6, .own 300), (4, .own 4), (1, .d (dIs l)), (0, .d (dG G))]) (fun i => [(4, .cells 31 [.d .nils, .d .nils]), (300, .slice 103 2 ((colsF (adjF G.edges l) i).map dE))]) (fun i => l.length - i) 0 (fun _ => rfl) (Nat.zero_le _) (.own 6 300 103 2 rfl rfl (.refl _ _)) ⟨rfl, by rw [← hdl]; rfl, rfl, rfl, rfl, rfl, rfl, trivial⟩ ⟨rfl, rfl, trivial⟩ ?_
   intro i hi
   refine sxCode_sound c1_ok (G := G_qvt) (pl := pl_qvt) _ _ _ _ (by kernel_rfl) ?_
   by_cases hil : i < l.length
   ·have hx := List.getElem?_eq_getElem hil
    have hadj : ∀ k u, l[k]? = some u → adjF G.edges l k i = decide (turn ⟨u, l[i]⟩ ∈ G.edges) := fun k u hk => by unfold adjF; rw [hk, hx]; rfl
    generalize l[i] = x at hx hadj
    have hxd : (l.map dI)[i]? = some (.int .i64 x) := by rw [List.getElem?_map, hx]; rfl
    have hsub : (l.map dI).take i = (l.take i).map dI := by rw [List.map_take]
    have htl : ((l.map dI).take i).length = i := by rw [List.length_take]; omega
    have hci := hcl i
    have hii : i * i ≤ 8 * 8 := Nat.mul_le_mul (by omega) (by omega)
    (conv => whnf)
    (repeat' ((first | refine ord_ok ?_ ?_ | refine at_da hxd rfl ?_ | refine hi_is rfl (show i ≤ (l.map dI).length by omega) ?_ | refine ify ?_ | refine ifn ?_ | refine i6 ?_ | refine ati ?_ | refine mst ?_ | refine rmd ?_ | refine ibo (fun _ => ?_) (fun _ => ?_) | exact oend) <;> conv => whnf))
    refine loop_lo (ι := Nat) (fun k => k ≤ i) (fun k => [(35, .d (.int .i64 k)), (34, .d (.int .i64 i)), (33, .d (.list 1 ((l.map dI).take i))), (26, .d (.int .i64 i)), (25, .d (.int .i64 l.length)), (24, .d (dIs l)), (8, .d (.int .i64 x)), (7, .d (.int .i64 i)), (6, .own 300), (4, .own 4), (1, .d (dIs l)), (0, .d (dG G))]) (fun k => [(4, .cells 31 [.d .nils, .d .nils]), (300, .slice 103 2 ((colsF (adjF G.edges l) i ++ colF (adjF G.edges l) i k).map dE))]) (fun k => i - k) 0 (fun _ => rfl) (Nat.zero_le _) (.refl _ _) ⟨rfl, int_is (by rw [htl]), rfl, rfl, rfl, rfl, rfl, rfl, rfl, rfl, rfl, rfl, trivial⟩ ⟨rfl, by rw [show colF (adjF G.edges l) i 0 = [] from rfl, List.append_nil]; rfl, trivial⟩ ?_
    intro k hk
    refine sxCode_sound c1_ok (G := G_qvt) (pl := pl_qvt) _ _ _ _ (by kernel_rfl) ?_
    by_cases hki : k < i
    ·have hy := List.getElem?_eq_getElem (l := l) (i := k) (by omega)
     generalize l[k]'(by omega) = u at hy
     have hyd : ((l.map dI).take i)[k]? = some (.int .i64 u) := by rw [List.getElem?_take, if_pos hki, List.getElem?_map, hy]; rfl
     have hh := hasE_pure G hG u x
     have hst := colF_step (adjF G.edges l) i k
     rw [hadj k u hy] at hst
     have hkl := colF_len (adjF G.edges l) i k
     have hol : ((colsF (adjF G.edges l) i ++ colF (adjF G.edges l) i k).map dE).length ≤ 1000 := by rw [List.length_map, List.length_append]; omega
     by_cases hd : turn ⟨u, x⟩ ∈ G.edges
     ·rw [decide_eq_true hd] at hh hst
      rw [if_pos rfl] at hst
      (conv => whnf)
      (repeat' ((first | refine ord_ok ?_ ?_ | refine at_da hyd rfl ?_ | refine call_eqb tab rfl hh rfl ?_ | refine ify ?_ | refine ifn ?_ | refine i6 ?_ | refine ati ?_ | refine mst ?_ | refine rmd ?_ | refine ibo (fun _ => ?_) (fun _ => ?_) | exact oend) <;> conv => whnf))
      refine ⟨k + 1, _, _, by omega, .refl _ _, ⟨rfl, rfl, rfl, rfl, rfl, rfl, rfl, rfl, rfl, rfl, rfl, rfl, trivial⟩, ⟨rfl, slice_is ?_, trivial⟩, by omega⟩
      rw [hst]; simp [dE]
     ·rw [decide_eq_false hd] at hh hst
      rw [if_neg (by decide), List.append_nil] at hst
      (conv => whnf)
      (repeat' ((first | refine ord_ok ?_ ?_ | refine at_da hyd rfl ?_ | refine call_eqb tab rfl hh rfl ?_ | refine ify ?_ | refine ifn ?_ | refine i6 ?_ | refine ati ?_ | refine mst ?_ | refine rmd ?_ | refine ibo (fun _ => ?_) (fun _ => ?_) | exact oend) <;> conv => whnf))
      exact ⟨k + 1, _, _, by omega, .refl _ _, ⟨rfl, rfl, rfl, rfl, rfl, rfl, rfl, rfl, rfl, rfl, rfl, rfl, trivial⟩, ⟨rfl, slice_is (by rw [hst]), trivial⟩, by omega⟩
    ·have hke : k = i := by omega
     subst hke
     ((conv => whnf); repeat' ((first | refine odw ?_ | refine ify ?_ | refine ifn ?_ | refine i6 ?_ | refine ati ?_ | refine mst ?_ | refine rmd ?_ | refine ibo (fun _ => ?_) (fun _ => ?_)) <;> conv => whnf))
     exact ⟨k + 1, _, _, by omega, .refl _ _, ⟨rfl, rfl, rfl, rfl, rfl, rfl, rfl, trivial⟩, ⟨rfl, slice_is (by rw [colsF_step]), trivial⟩, by omega⟩
   ·have hie : i = l.length := by omega
    subst hie
    (conv => whnf)
    (repeat' ((first | refine ord_ok ?_ ?_ | refine call_frz 300 rfl ?_ | refine call_eq rfl hql ?_ | refine call_eq rfl hmk ?_ | refine ify ?_ | refine ifn ?_ | refine i6 ?_ | refine ati ?_ | refine mst ?_ | refine rmd ?_ | refine ibo (fun _ => ?_) (fun _ => ?_) | exact oend) <;> conv => whnf))
    exact rfl
end Go.Proofs.YtjejpdfldmempaaGreatDoor
end
section
namespace Go.Proofs.YtjejpdfldmempaaGreatDoor
open Go.Sx Go.RowKit Go.Reg Go.Gr
set_option maxRecDepth 100000
theorem edgesI_cs {O : List Nat} {w : World} : ∀ {l : List Edg} {css : List (List Value)}, RepCss O w (l.map dE) css → css = l.map encEI
 | [], css, h => by simpa only [List.map_nil, RepCss] using h
 | e :: l, css, h => by
   simp only [List.map_cons, RepCss, dE, RepC, RepCs] at h
   obtain ⟨c1, c2, rfl, ⟨a1, a2, rfl, rfl, b1, b2, rfl, rfl, rfl⟩, h⟩ := h
   rw [edgesI_cs h]; rfl
theorem cssI_edges (O : List Nat) (w : World) : ∀ l : List Edg, RepCss O w (l.map dE) (l.map encEI)
 | [] => by simp [RepCss]
 | e :: l => by
   simp only [List.map_cons, RepCss, dE, RepC, RepCs]
   exact ⟨_, _, rfl, ⟨_, _, rfl, rfl, _, _, rfl, rfl, rfl⟩, cssI_edges O w l⟩
theorem edgesI_sl {E : Nat} {w : World} {v : Value} {l : List Edg} : Sl E 2 id w v (l.map encEI) ↔ Sl E 2 encEI w v l := by
 unfold Sl
 rw [List.length_map, List.flatMap_map]
 exact Iff.rfl
theorem insert_eat (l : List Edg) (hl : l.length ≤ 4294967296) (e : Edg) (i : Nat) (hi : i ≤ l.length) :
  EatSl C1 194 103 2 (l.map dE) [.int .i64 i, .list 2 [dE e]] (fun ds => ds = (l.take i ++ e :: l.drop i).map dE) := by
 intro O w v css us hs hb hO hr hk hg hus
 obtain rfl := edgesI_cs hr
 obtain ⟨v1, vs, rfl, h1, h2⟩ := reps_inv hus
 obtain ⟨v2, vs2, rfl, h3, h4⟩ := reps_inv h2
 obtain rfl := reps_inv0 h4
 obtain rfl := rep_int h1
 obtain ⟨cs, r, rfl⟩ := h3
 simp only [RepC] at r
 obtain ⟨a, cap, css, rfl, hlc, hcm, hcs, hrow, hd⟩ := r
 have hcs' : css = [encEI e] := edgesI_cs (l := [e]) hcs
 subst hcs'
 rcases hd with hd | ⟨vb, vo, rfl, hvb, hvl, hcell⟩
 ·cases hd
 refine ⟨enters_of Tryz.func194 (by kernel_rfl) rfl _ _, ?_⟩
 refine (insert_ok v l e i hi w (edgesI_sl.1 hs) hl vb vo cap (fun hm => hvb (hb vb hm)) (fun j u hj => hcell j u (by simpa using hj))).mono ?_
 rintro x w' ⟨v', rfl, hs', ht, hb'⟩
 refine ⟨v', _, (l.take i ++ e :: l.drop i).map encEI, rfl, rfl, edgesI_sl.2 hs', hb', cssI_edges _ _ _, fun y hy => ?_, ht⟩
 obtain ⟨z, _, rfl⟩ := List.mem_map.1 hy
 exact ⟨encEI_len z, encEI_one z⟩
theorem flatsI_edges (l : List Edg) : flats (l.map dE) = true := flats_map _ (fun _ => rfl) _
def pl_pmg : List (Nat × Plan) := [(8, .leaf [0, 1, 1, 2, 2, 0, 0, 0, 0, 0] [0, 1, 2, 3, 4, 5, 6, 7, 8, 9] [0, 1, 0, 4, 15, 31, 63, 63, 127, 511]),
 (13, .leaf [0, 1, 0, 1, 2, 6, 3, 0, 3] [0, 2, 1, 3, 4, 5, 6, 7, 8] [0, 1, 0, 0, 8, 24, 63, 127, 255])]
def G_pmg : List FuncId := [57, 193, 48]
theorem cok_pmg : codeOk Tryz.prog G_pmg pl_pmg (Tryz.f129.body.getD .skip) = true := by kernel_rfl
theorem run_pmg (vs : Array Value) (w : World) : (callFunc 129 vs).run C1.P w = .ok (.enter 129 vs) w := by kernel_rfl
set_option maxHeartbeats 4000000 in
theorem pmake_pure (l : List Int) (hl : lErr l = none) (E : List Edg) (hE : E.length ≤ 1000) (hw : ∀ e ∈ E, (0 ≤ min e.a e.b ∧ max e.a e.b < (l.length : Int)) ∧ e.a ≠ e.b) (hn : (E.map turn).Nodup) :
  Pure C1 129 [dIs l, dEs E] (fun y => y = .tuple [dPt ⟨l, (E.map turn).foldl insE []⟩, .nili]) := by
 have hdl : (l.map dI).length = l.length := List.length_map _
 have hdE : (E.map dE).length = E.length := List.length_map _
 have h8 := (lErr_none hl).1
 have hlb := plabels_pure l (by omega)
 rw [show labelsY l = .nili by unfold labelsY; rw [hl]] at hlb
 refine pure_of c1_ok (pl := pl_pmg) (G := G_pmg) Tryz.func129 rfl Tryz.ntmps129 run_pmg cok_pmg (by simp) ?_
 (conv => whnf)
 (repeat' ((first | refine ord_ok ?_ ?_ | refine call_eq rfl hlb ?_ | refine ify ?_ | refine ifn ?_ | refine i6 ?_ | refine ati ?_ | refine mst ?_ | refine rmd ?_ | refine ibo (fun _ => ?_) (fun _ => ?_) | exact oend) <;> conv => whnf))
 refine call_mksl 19 rfl rfl (clone_sl l (by omega)) ?_
 rintro ds rfl
 ((conv => whnf); repeat' ((first | refine odw ?_ | refine ify ?_ | refine ifn ?_ | refine i6 ?_ | refine ati ?_ | refine mst ?_ | refine rmd ?_ | refine ibo (fun _ => ?_) (fun _ => ?_)) <;> conv => whnf))
 refine loop_lo (ι := Nat) (fun i => i ≤ E.length) (fun i => [(23, .d (.int .i64 i)), (22, .d (.int .i64 E.length)), (21, .d (dEs E)), (7, .own 7), (4, .own 4), (0, .d (dIs l))]) (fun i => [(4, .cells 31 [.d .nils, .d .nils]), (7, .cells 31 [.d (dIs l), .own 300]), (300, .slice 103 2 ((accE E i).map dE))]) (fun i => E.length - i) 0 (fun _ => rfl) (Nat.zero_le _) (.frz 19 rfl (.ownc 7 300 103 2 rfl rfl (.there _ (.here _)) (.refl _ _))) ⟨rfl, by rw [← hdE]; rfl, rfl, rfl, rfl, rfl, trivial⟩ ⟨rfl, rfl, rfl, trivial⟩ ?_
 intro i hi
 refine sxCode_sound c1_ok (G := G_pmg) (pl := pl_pmg) _ _ _ _ (by kernel_rfl) ?_
 obtain ⟨hst, hpe⟩ := accE_ok hn i
 have hal : (accE E i).length = i := by rw [hpe.length_eq, List.length_map, List.length_take]; omega
 have hald : ((accE E i).map dE).length = i := by rw [List.length_map, hal]
 by_cases hil : i < E.length
 ·have hx := List.getElem?_eq_getElem hil
  have hxw := hw E[i] (List.getElem_mem hil)
  have hstep := accE_step hx
  have hnot : turn E[i] ∉ accE E i := fun hm => by
   have := hpe.mem_iff.1 hm
   rw [List.map_take] at this
   obtain ⟨j, hj, he⟩ := List.mem_take_iff_getElem.1 this
   have hj' : j < i := by omega
   have hij : (E.map turn)[j]? = (E.map turn)[i]? := by
    rw [List.getElem?_eq_getElem (by simp; omega), List.getElem?_eq_getElem (by simp; omega), he]; simp
   have := (List.getElem?_inj (by simp; omega) hn).1 hij
   omega
  generalize E[i] = x at hx hxw hstep hnot
  have hxd : (E.map dE)[i]? = some (.agg [.int .i64 x.a, .int .i64 x.b]) := by rw [List.getElem?_map, hx]; rfl
  have htu := pturned_pure x
  have hbs := bsearchO_pure _ porder_pure (accE E i) hst (by omega) (turn x)
  rw [decide_eq_false hnot] at hbs
  have hwi := within_pure x l.length
  rw [decide_eq_true hxw.1, ← hdl] at hwi
  have hlt := lts_le (accE E i) (turn x)
  have hin := insert_eat (accE E i) (by omega) (turn x) (ltsB (accE E i) (turn x)) hlt
  rw [show (accE E i).take (ltsB (accE E i) (turn x)) ++ turn x :: (accE E i).drop (ltsB (accE E i) (turn x)) = accE E (i + 1) from hstep.symm] at hin
  have hne := hxw.2
  (conv => whnf)
  (repeat' ((first | refine ord_ok ?_ ?_ | refine at_da hxd rfl ?_ | refine call_eq rfl htu ?_ | refine call_eqb tab rfl hbs rfl ?_ | refine call_eq rfl hwi ?_ | refine call_frz 62 rfl ?_ | refine ify ?_ | refine ifn ?_ | refine i6 ?_ | refine ati ?_ | refine mst ?_ | refine rmd ?_ | refine ibo (fun _ => ?_) (fun _ => ?_) | exact oend) <;> conv => whnf))
  refine call_eatb tab rfl rfl hin (fun ds h => by subst h; exact flatsI_edges _) ?_
  rintro ds rfl
  ((conv => whnf); repeat' ((first | refine odw ?_ | refine ify ?_ | refine ifn ?_ | refine i6 ?_ | refine ati ?_ | refine mst ?_ | refine rmd ?_ | refine ibo (fun _ => ?_) (fun _ => ?_)) <;> conv => whnf))
  exact ⟨i + 1, _, _, by omega, .refl _ _, ⟨rfl, rfl, rfl, rfl, rfl, rfl, trivial⟩, ⟨rfl, rfl, rfl, trivial⟩, by omega⟩
 ·have hie : i = E.length := by omega
  subst hie
  have e : accE E E.length = (E.map turn).foldl insE [] := by unfold accE; rw [List.take_length]
  rw [e]
  ((conv => whnf); repeat' ((first | refine odw ?_ | refine ify ?_ | refine ifn ?_ | refine i6 ?_ | refine ati ?_ | refine mst ?_ | refine rmd ?_ | refine ibo (fun _ => ?_) (fun _ => ?_)) <;> conv => whnf))
  exact rfl
end Go.Proofs.YtjejpdfldmempaaGreatDoor
end
section
namespace Go.Proofs.YtjejpdfldmempaaGreatDoor
open Go.Gr
theorem mem_endsOf {E : List Edg} {l : List Int} {e : Edg} : e ∈ endsOf E l ↔ ∃ m : Nat, (m : Int) ∈ l ∧ E[m]? = some e := by
 simp only [endsOf, List.mem_filterMap]
 constructor
 ·rintro ⟨x, hx, h⟩
  split at h
  ·rename_i hr
   obtain ⟨m, rfl⟩ := Int.eq_ofNat_of_zero_le hr.1
   exact ⟨m, hx, by simpa using h⟩
  ·cases h
 ·rintro ⟨m, hm, h⟩
  have := (List.getElem?_eq_some_iff.1 h).1
  exact ⟨m, hm, by rw [if_pos ⟨by omega, by omega⟩, Int.toNat_natCast]; exact h⟩
theorem turn_nat {u m : Nat} (h : u ≠ m) : (u < m ∧ turn ⟨(u : Int), (m : Int)⟩ = ⟨(u : Int), (m : Int)⟩) ∨ (m < u ∧ turn ⟨(u : Int), (m : Int)⟩ = ⟨(m : Int), (u : Int)⟩) := by
 rcases Nat.lt_or_gt_of_ne h with h | h
 ·exact .inl ⟨h, by unfold turn; simp only [Edg.mk.injEq]; omega⟩
 ·exact .inr ⟨h, by unfold turn; simp only [Edg.mk.injEq]; omega⟩
theorem turn_want {E : List Edg} {u m : Nat} (h : u ≠ m) (hu : u < E.length) (hm : m < E.length) : turn ⟨(u : Int), (m : Int)⟩ ∈ wantW E E.length ↔ tch E u m = true := by
 rw [mem_wantW]
 rcases turn_nat h with ⟨h1, h2⟩ | ⟨h1, h2⟩ <;> rw [h2]
 ·constructor
  ·rintro ⟨a, b, _, _, _, ht, e⟩
   simp only [Edg.mk.injEq] at e
   rw [show u = a by omega, show m = b by omega]; exact ht
  ·exact fun ht => ⟨u, m, hu, hm, h1, ht, rfl⟩
 ·constructor
  ·rintro ⟨a, b, _, _, _, ht, e⟩
   simp only [Edg.mk.injEq] at e
   rw [show m = a by omega, show u = b by omega, tch_sym]; exact ht
  ·exact fun ht => ⟨m, u, hm, hu, h1, by rw [tch_sym]; exact ht, rfl⟩
theorem linkN_pre {G : Gr} {l : List Int} (h : linkedV G l = true) {k : Nat} {v : Int} (hx : l[k]? = some v) : linkAt G l k v = true := by
 cases hh : linkAt G l k v with
 | true => rfl
 | false => rw [linkedV_no hx hh] at h; cases h
theorem ln_has {G : Gr} {v : Int} : hasV (lnGr G) v = decide (0 ≤ v ∧ v < G.edges.length) := by simp [hasV, lnGr]
theorem linkAt_bad {G : Gr} {l : List Int} {i : Nat} {v : Int} (h : ¬ (0 ≤ v ∧ v < G.edges.length) ∨ v ∈ l.take i) : linkAt (lnGr G) l i v = false := by
 unfold linkAt
 rw [ln_has]
 rcases h with h | h <;> simp [h]
end Go.Proofs.YtjejpdfldmempaaGreatDoor
end
section
namespace Go.Gr
theorem rowF_strict (f : Nat → Nat → Bool) (a b : Nat) : Strict (rowF f a b) := by
 unfold Strict rowF
 rw [List.pairwise_map]
 refine List.Pairwise.imp ?_ (List.Pairwise.filter _ List.pairwise_lt_range)
 intro x y h
 rw [cmpE_lt]
 exact .inr ⟨rfl, by show (x : Int) < y; omega⟩
theorem rowsF_strict (f : Nat → Nat → Bool) (n a : Nat) : Strict (rowsF f n a) := by
 unfold rowsF Strict
 rw [List.pairwise_flatMap]
 refine ⟨fun j _ => rowF_strict f j n, List.Pairwise.imp ?_ List.pairwise_lt_range⟩
 intro i j hij x hx y hy
 simp only [rowF, List.mem_map] at hx hy
 obtain ⟨_, _, rfl⟩ := hx
 obtain ⟨_, _, rfl⟩ := hy
 rw [cmpE_lt]
 exact .inl (by show (i : Int) < j; omega)
theorem mem_colsF {f : Nat → Nat → Bool} {n : Nat} {e : Edg} : e ∈ colsF f n ↔ ∃ k i : Nat, i < n ∧ k < i ∧ f k i = true ∧ e = ⟨(k : Int), (i : Int)⟩ := by
 simp only [colsF, colF, List.mem_flatMap, List.mem_range, List.mem_map, List.mem_filter]
 constructor
 ·rintro ⟨i, hi, k, ⟨h1, h2⟩, rfl⟩; exact ⟨k, i, hi, h1, h2, rfl⟩
 ·rintro ⟨k, i, hi, h1, h2, rfl⟩; exact ⟨i, hi, k, ⟨h1, h2⟩, rfl⟩
theorem colsF_nodup (f : Nat → Nat → Bool) (n : Nat) : (colsF f n).Nodup := by
 unfold colsF List.Nodup
 rw [List.pairwise_flatMap]
 refine ⟨fun i _ => ?_, List.Pairwise.imp ?_ List.pairwise_lt_range⟩
 ·unfold colF
  rw [List.pairwise_map]
  refine List.Pairwise.imp ?_ (List.Pairwise.filter _ List.pairwise_lt_range)
  intro x y h e
  have : (x : Int) = y := congrArg Edg.a e
  omega
 ·intro i j hij x hx y hy e
  simp only [colF, List.mem_map] at hx hy
  obtain ⟨a, _, rfl⟩ := hx
  obtain ⟨b, _, rfl⟩ := hy
  have : (i : Int) = j := congrArg Edg.b e
  omega
theorem made_is {L R : List Edg} (hn : (L.map turn).Nodup) (hR : Strict R) (h : ∀ x, x ∈ L.map turn ↔ x ∈ R) : (L.map turn).foldl insE [] = R := by
 obtain ⟨h1, h2⟩ := fold_ins _ hn [] List.Pairwise.nil (by simp)
 refine strict_mem_eq h1 hR fun x => ?_
 rw [h2.mem_iff, List.append_nil]
 exact h x
theorem colsF_turn (f : Nat → Nat → Bool) (n : Nat) : (colsF f n).map turn = colsF f n := by
 have : ∀ e ∈ colsF f n, turn e = id e := fun e he => by
  obtain ⟨k, i, _, h, _, rfl⟩ := mem_colsF.1 he
  exact turn_lt (show (k : Int) ≤ i by omega)
 rw [List.map_congr_left this, List.map_id]
theorem turn_or (x y : Int) : turn ⟨x, y⟩ = ⟨x, y⟩ ∨ turn ⟨x, y⟩ = ⟨y, x⟩ := by
 unfold turn; simp only [Edg.mk.injEq]; omega
theorem made_cols {E : List Edg} (hE : ∀ e ∈ E, e.a < e.b) (l : List Int) : ((colsF (adjF E l) l.length).map turn).foldl insE [] = madeE E l := by
 refine made_is (by rw [colsF_turn]; exact colsF_nodup _ _) (rowsF_strict _ _ _) fun x => ?_
 rw [colsF_turn, mem_colsF]
 unfold madeE
 rw [mem_rowsF]
 constructor
 ·rintro ⟨k, i, h1, h2, h3, rfl⟩
  exact ⟨k, i, by omega, h1, h2, by unfold pairF; rw [hasR_turn hE]; exact h3, rfl⟩
 ·rintro ⟨j, x, h0, h1, h2, h3, rfl⟩
  unfold pairF at h3
  rw [hasR_turn hE] at h3
  exact ⟨j, x, h1, h2, h3, rfl⟩
theorem idx_of {l : List Int} {x : Int} (h : x ∈ l) : ∃ i : Nat, i < l.length ∧ l[i]? = some x ∧ idxI l x = i := by
 have hs : (l.findIdx? fun y => decide (x = y)).isSome = true := by
  rw [List.findIdx?_isSome, List.any_eq_true]; exact ⟨x, h, by simp⟩
 obtain ⟨i, hi⟩ := Option.isSome_iff_exists.1 hs
 have hi' := hi
 rw [List.findIdx?_eq_some_iff_getElem] at hi'
 obtain ⟨h1, h2, _⟩ := hi'
 have h2 : x = l[i] := by simpa using h2
 exact ⟨i, h1, by rw [List.getElem?_eq_getElem h1, ← h2], by unfold idxI; rw [hi]⟩
theorem idx_nat {l : List Int} (hn : l.Nodup) {i : Nat} {x : Int} (h : l[i]? = some x) : idxI l x = i := by
 obtain ⟨j, hj, h2, h3⟩ := idx_of (List.mem_of_getElem? h)
 rw [h3]
 have := (List.getElem?_inj hj hn).1 (h2.trans h.symm)
 omega
def atE (v : List Int) (e : Edg) : Edg := ⟨idxI v e.a, idxI v e.b⟩
theorem atE_in {v : List Int} (_hn : v.Nodup) {e : Edg} (h : e.a < e.b) (ha : e.a ∈ v) (hb : e.b ∈ v) : ∃ i j : Nat, i < v.length ∧ j < v.length ∧ v[i]? = some e.a ∧ v[j]? = some e.b ∧ i ≠ j ∧ atE v e = ⟨(i : Int), (j : Int)⟩ := by
 obtain ⟨i, h1, h2, h3⟩ := idx_of ha
 obtain ⟨j, h4, h5, h6⟩ := idx_of hb
 refine ⟨i, j, h1, h4, h2, h5, fun e' => ?_, by unfold atE; rw [h3, h6]⟩
 subst e'
 rw [h2] at h5
 have := Option.some.inj h5
 omega
theorem made_ats {E : List Edg} (hE : ∀ e ∈ E, e.a < e.b) (hn : E.Nodup) (v : List Int) (hv : v.Nodup) (hin : ∀ e ∈ E, e.a ∈ v ∧ e.b ∈ v) :
  (((E.map (atE v)).map turn).Nodup) ∧ ((E.map (atE v)).map turn).foldl insE [] = madeE E v := by
 have hnd : ((E.map (atE v)).map turn).Nodup := by
  rw [List.map_map]
  refine List.pairwise_map.2 (List.Pairwise.imp_of_mem ?_ hn)
  intro x y hx hy hxy h
  refine hxy ?_
  simp only [Function.comp] at h
  obtain ⟨i, j, h1, h2, h3, h4, h5, h6⟩ := atE_in hv (hE x hx) (hin x hx).1 (hin x hx).2
  obtain ⟨i2, j2, k1, k2, k3, k4, k5, k6⟩ := atE_in hv (hE y hy) (hin y hy).1 (hin y hy).2
  rw [h6, k6] at h
  have hxl := hE x hx
  have hyl := hE y hy
  have hcase : (i = i2 ∧ j = j2) ∨ (i = j2 ∧ j = i2) := by
   unfold turn at h; simp only [Edg.mk.injEq] at h; omega
  rcases hcase with ⟨rfl, rfl⟩ | ⟨rfl, rfl⟩
  ·rw [h3] at k3; rw [h4] at k4
   have e1 := Option.some.inj k3; have e2 := Option.some.inj k4
   cases x; cases y; simp_all
  ·rw [h3] at k4; rw [h4] at k3
   have e1 := Option.some.inj k3; have e2 := Option.some.inj k4
   omega
 refine ⟨hnd, made_is hnd (rowsF_strict _ _ _) fun x => ?_⟩
 unfold madeE
 rw [mem_rowsF]
 simp only [List.map_map, List.mem_map, Function.comp]
 constructor
 ·rintro ⟨e, he, rfl⟩
  obtain ⟨i, j, h1, h2, h3, h4, h5, h6⟩ := atE_in hv (hE e he) (hin e he).1 (hin e he).2
  have ht : turn e = e := turn_lt (Int.le_of_lt (hE e he))
  rw [h6]
  rcases Go.Proofs.YtjejpdfldmempaaGreatDoor.turn_nat h5 with ⟨h7, h8⟩ | ⟨h7, h8⟩ <;> rw [h8]
  ·refine ⟨i, j, h1, h2, h7, ?_, rfl⟩
   unfold pairF; rw [hasR_turn hE, h3, h4]
   simp only [Option.getD_some, decide_eq_true_eq]
   rw [show (⟨e.a, e.b⟩ : Edg) = e from rfl, ht]; exact he
  ·refine ⟨j, i, h2, h1, h7, ?_, rfl⟩
   unfold pairF; rw [hasR_turn hE, h3, h4]
   simp only [Option.getD_some, decide_eq_true_eq]
   rw [turn_sym, show (⟨e.a, e.b⟩ : Edg) = e from rfl, ht]; exact he
 ·rintro ⟨j, x, h0, h1, h2, h3, rfl⟩
  unfold pairF at h3
  rw [hasR_turn hE, decide_eq_true_eq] at h3
  have hj := List.getElem?_eq_getElem h0
  have hx := List.getElem?_eq_getElem h1
  refine ⟨_, h3, ?_⟩
  have g1 := idx_nat hv hj
  have g2 := idx_nat hv hx
  rw [hj, hx] at h3 ⊢
  simp only [Option.getD_some] at h3 ⊢
  rcases turn_or v[j] v[x] with e | e <;> rw [e] <;> unfold atE <;> simp only [g1, g2]
  ·exact turn_lt (show (j : Int) ≤ x by omega)
  ·rw [turn_sym]; exact turn_lt (show (j : Int) ≤ x by omega)
end Go.Gr
end
section
namespace Go.Gr
open Go
def nmB : Nat → List UInt8
 | 0 => [119, 111, 114, 107]
 | 1 => [100, 101, 108, 105, 118, 101, 114]
 | 2 => [100, 111, 117, 98, 108, 101]
 | 3 => [99, 114, 97, 115, 104]
 | 4 => [112, 97, 115, 115]
 | _ => [102, 105, 110, 105, 115, 104]
def lnB (k n : Nat) : List UInt8 := if k < 4 then nmB k ++ 32 :: Lib.decDigits n else nmB k
def actOk (p : Nat × Nat) : Prop := p.1 < 6 ∧ p.2 ≤ 999999 ∧ (3 < p.1 → p.2 = 0)
def IsAct (b : List UInt8) (p : Nat × Nat) : Prop := actOk p ∧ b = lnB p.1 p.2
inductive Pars : List UInt8 → List (Nat × Nat) → Bool → Prop
 | nil : Pars [] [] true
 | line {b : List UInt8} {p : Nat × Nat} {r : List UInt8} {l : List (Nat × Nat)} {ok : Bool} : IsAct b p → Pars r l ok → Pars (b ++ 10 :: r) (p :: l) ok
 | bad {b r : List UInt8} : 10 ∉ b → (∀ p, ¬ IsAct b p) → Pars (b ++ 10 :: r) [] false
 | last {b : List UInt8} : 10 ∉ b → b ≠ [] → Pars b [] false
end Go.Gr
end
