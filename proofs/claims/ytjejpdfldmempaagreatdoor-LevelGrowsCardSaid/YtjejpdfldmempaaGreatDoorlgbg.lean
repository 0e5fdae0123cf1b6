/- Merged: Lvk. -/
import Derived.Test.YtjejpdfldmempaaGreatDoorOen
import Derived.Test.YtjejpdfldmempaaGreatDoorlgbe
import Derived.Test.YtjejpdfldmempaaGreatDoorlgbf
import Derived.Test.YtjejpdfldmempaaGreatDoorlgav
section
namespace Go.Proofs.YtjejpdfldmempaaGreatDoor
open Go.Sx Go.RowKit Go.Reg Go.Gr
set_option maxRecDepth 100000
theorem set_take {α : Type} {l : List α} {i : Nat} (h : i < l.length) (y : α) : (l.set i y).take (i + 1) = l.take i ++ [y] := by
 rw [List.take_add_one, List.take_set_of_le (Nat.le_refl i), List.getElem?_set_self h]; rfl
def pl_dll : List (Nat × Plan) := []
def G_dll : List FuncId := [197]
theorem cok_dll : codeOk Tryz.prog G_dll pl_dll (Tryz.f135.body.getD .skip) = true := by kernel_rfl
theorem run_dll (vs : Array Value) (w : World) : (callFunc 135 vs).run C1.P w = .ok (.enter 135 vs) w := by kernel_rfl
theorem ldelete_eat (l : List (List Int)) (g : FuncId) (cs : List Da) (p : List Int → Bool) (hl : l.length ≤ 4294967296) (hp : ∀ x ∈ l, Pure C1 g (dIs x :: cs) (fun y => y = .bool (p x))) :
  EatN C1 135 28 1 (l.map dIs) [] [.func (.func g) [] cs] (fun ds => ds = (l.filter fun x => !p x).map dIs) := by
 have hll : (l.map dIs).length = l.length := List.length_map _
 have hif := lindexF_pure l g cs p (by omega) hp
 refine eatn_of c1_ok (pl := pl_dll) (G := G_dll) Tryz.func135 rfl Tryz.ntmps135 run_dll cok_dll (by simp) ?_
 cases hf : l.findIdx? p with
 | none =>
   rw [hf] at hif
   simp only [optI] at hif
   have hfl : (l.filter fun x => !p x) = l := by
    rw [List.filter_eq_self]
    intro a ha
    rw [List.findIdx?_eq_none_iff] at hf
    simp [hf a ha]
   rw [hfl]
   (conv => whnf)
   (repeat' ((first | refine ord_ok ?_ ?_ | refine call_eqb tab rfl hif rfl ?_ | refine ify ?_ | refine ifn ?_ | refine i6 ?_ | refine ati ?_ | refine mst ?_ | refine rmd ?_ | refine ibo (fun _ => ?_) (fun _ => ?_) | exact oend) <;> conv => whnf))
   exact ⟨rfl, rfl, rfl⟩
 | some i =>
   rw [hf] at hif
   simp only [optI] at hif
   have hf2 := hf
   rw [List.findIdx?_eq_some_iff_getElem] at hf2
   obtain ⟨hil, hpi, hfirst⟩ := hf2
   have hti : l.take i = (l.take (i + 1)).filter fun x => !p x := by
    rw [List.take_add_one, List.getElem?_eq_getElem hil, Option.toList_some, List.filter_append]
    have h2 : [l[i]].filter (fun x => !p x) = [] := by simp [hpi]
    rw [h2, List.append_nil]
    refine (List.filter_eq_self.2 fun a ha => ?_).symm
    obtain ⟨j, hj, rfl⟩ := List.mem_take_iff_getElem.1 ha
    have := hfirst j (by omega)
    simpa using this
   (conv => whnf)
   (repeat' ((first | refine ord_ok ?_ ?_ | refine call_eqb tab rfl hif rfl ?_ | refine ify ?_ | refine ifn ?_ | refine i6 ?_ | refine ati ?_ | refine mst ?_ | refine rmd ?_ | refine ibo (fun _ => ?_) (fun _ => ?_) | exact oend) <;> conv => whnf))
   refine loop_lo (ι := Nat × Nat × List (List Int)) (fun x => (x.2.2.length = l.length ∧ x.1 < x.2.1 ∧ x.2.1 ≤ l.length) ∧ x.2.2.take x.1 = ((l.take x.2.1).filter fun x => !p x) ∧ x.2.2.drop x.2.1 = l.drop x.2.1)
    (fun x => [(6, .d (.int .i64 (x.2.1 : Nat))), (5, .d (.int .i64 (x.1 : Nat))), (1, .d (.func (.func g) [] cs)), (0, .own 900)]) (fun x => [(900, .slice 28 1 (x.2.2.map dIs))]) (fun x => l.length - x.2.1) (i, i + 1, l) (fun _ => rfl)
    ⟨⟨rfl, by simp, by simp only; omega⟩, hti, rfl⟩ (.refl _ _) ⟨rfl, rfl, rfl, rfl, trivial⟩ ⟨rfl, trivial⟩ ?_
   rintro ⟨i, j, L⟩ ⟨⟨hLl, hij, hjl⟩, hT, hD⟩
   dsimp only at hLl hij hjl hT hD
   have hLm : (L.map dIs).length = L.length := List.length_map _
   dsimp only
   refine sxCode_sound c1_ok (G := G_dll) (pl := pl_dll) _ _ _ _ (by kernel_rfl) ?_
   by_cases hj : j < l.length
   ·have hx := List.getElem?_eq_getElem hj
    have hpy := hp _ (List.getElem_mem hj)
    generalize l[j] = y at hx hpy
    have hLj : L[j]? = some y := by
     have := congrArg (fun z => z[0]?) hD
     simp only [List.getElem?_drop, Nat.add_zero] at this
     rw [this]; exact hx
    have hxd : (L.map dIs)[j]? = some (.list 1 (y.map dI)) := by rw [List.getElem?_map, hLj]; rfl
    have hD2 : L.drop (j + 1) = l.drop (j + 1) := by
     have := congrArg (List.drop 1) hD
     rwa [List.drop_drop, List.drop_drop] at this
    cases hpv : p y with
    | true =>
      rw [hpv] at hpy
      (conv => whnf)
      (repeat' ((first | refine ord_ok ?_ ?_ | refine el_at (i := j) rfl (by omega) ?_ | refine el_is hxd ?_ | refine call_eq (allD_fn _ _) hpy ?_ | refine ify ?_ | refine ifn ?_ | refine i6 ?_ | refine ati ?_ | refine mst ?_ | refine rmd ?_ | refine ibo (fun _ => ?_) (fun _ => ?_) | exact oend) <;> conv => whnf))
      refine ⟨(i, j + 1, L), _, _, ⟨⟨hLl, by dsimp only; omega, hj⟩, ?_, hD2⟩, .refl _ _, ⟨rfl, rfl, rfl, rfl, trivial⟩, ⟨rfl, trivial⟩, by dsimp only; omega⟩
      dsimp only
      rw [hT, List.take_add_one, hx, Option.toList_some, List.filter_append]
      simp [hpv]
    | false =>
      rw [hpv] at hpy
      have hLi := List.getElem?_eq_getElem (l := L) (i := i) (by omega)
      generalize L[i]'(by omega) = z at hLi
      have hzd : (L.map dIs)[i]? = some (.list 1 (z.map dI)) := by rw [List.getElem?_map, hLi]; rfl
      have hset : (L.map dIs).set i (.list 1 (y.map dI)) = (L.set i y).map dIs := by rw [List.map_set]; rfl
      (conv => whnf)
      (repeat' ((first | refine ord_ok ?_ ?_ | refine el_at (i := j) rfl (by omega) ?_ | refine el_is hxd ?_ | refine call_eq (allD_fn _ _) hpy ?_ | refine el_at (i := i) rfl (by omega) ?_ | refine el_is hzd ?_ | refine ify ?_ | refine ifn ?_ | refine i6 ?_ | refine ati ?_ | refine mst ?_ | refine rmd ?_ | refine ibo (fun _ => ?_) (fun _ => ?_) | exact oend) <;> conv => whnf))
      refine ⟨(i + 1, j + 1, L.set i y), _, _, ⟨⟨by rw [List.length_set]; exact hLl, by dsimp only; omega, hj⟩, ?_, ?_⟩, .refl _ _, ⟨rfl, rfl, rfl, rfl, trivial⟩, ⟨slice_is hset, trivial⟩, by dsimp only; omega⟩
      ·dsimp only
       rw [set_take (by omega), hT, List.take_add_one, hx, Option.toList_some, List.filter_append]
       simp [hpv]
      ·dsimp only
       rw [List.drop_set_of_lt (by omega)]; exact hD2
   ·have hje : j = l.length := by omega
    subst hje
    rw [List.take_length] at hT
    have hL0 : L.map dIs ≠ [] := fun e => by have hc := congrArg List.length e; rw [hLm, List.length_nil] at hc; omega
    have hone : ∀ d ∈ L.map dIs, d.one = true := fun d hd => by obtain ⟨x, _, rfl⟩ := List.mem_map.1 hd; rfl
    have hone2 : ∀ d ∈ (L.map dIs).take i, d.one = true ∧ d.stor = true := fun d hd => by obtain ⟨x, _, rfl⟩ := List.mem_map.1 (List.mem_of_mem_take hd); exact ⟨rfl, rfl⟩
    have hhead : (L.map dIs).take i = (l.filter fun x => !p x).map dIs := by rw [← List.map_take, hT]
    ((conv => whnf); repeat' ((first | refine odw ?_ | refine ify ?_ | refine ifn ?_ | refine i6 ?_ | refine ati ?_ | refine mst ?_ | refine rmd ?_ | refine ibo (fun _ => ?_) (fun _ => ?_)) <;> conv => whnf))
    refine op_tailC i 800 c1_ok 900 rfl rfl rfl rfl rfl rfl rfl rfl hone rfl rfl (by omega) hL0 ⟨by decide, by decide⟩ rfl fun g c vs hvs => ?_
    ((conv => whnf); repeat' ((first | refine odw ?_ | refine ify ?_ | refine ifn ?_ | refine i6 ?_ | refine ati ?_ | refine mst ?_ | refine rmd ?_ | refine ibo (fun _ => ?_) (fun _ => ?_)) <;> conv => whnf))
    refine op_clearC c1_ok 900 rfl rfl rfl rfl rfl rfl (fun w => by kernel_rfl) rfl rfl ⟨by decide, by decide⟩ rfl ?_
    ((conv => whnf); repeat' ((first | refine odw ?_ | refine ify ?_ | refine ifn ?_ | refine i6 ?_ | refine ati ?_ | refine mst ?_ | refine rmd ?_ | refine ibo (fun _ => ?_) (fun _ => ?_)) <;> conv => whnf))
    refine op_headC (gh := 800) (ds := (L.map dIs).take i) c1_ok 900 rfl rfl rfl rfl rfl (by rw [List.length_append, List.length_take, List.length_replicate]; omega) rfl rfl (by rw [List.take_append_of_le_length (by rw [List.length_take]; omega), List.take_take, Nat.min_self]) (by rw [List.length_take]; omega) hone2 rfl rfl ⟨by decide, by decide⟩ rfl ?_
    rw [hhead]
    ((conv => whnf); repeat' ((first | refine odw ?_ | refine ify ?_ | refine ifn ?_ | refine i6 ?_ | refine ati ?_ | refine mst ?_ | refine rmd ?_ | refine ibo (fun _ => ?_) (fun _ => ?_)) <;> conv => whnf))
    exact ⟨rfl, rfl, rfl⟩
section
variable {G : Gr} {e : Bool} {d : Int} {l : List Opp}
def pl_lkp : List (Nat × Plan) := []
def G_lkp : List FuncId := [135]
theorem cok_lkp : codeOk Tryz.prog G_lkp pl_lkp (Tryz.f91.body.getD .skip) = true := by kernel_rfl
theorem run_lkp (vs : Array Value) (w : World) : (callFunc 91 vs).run C1.P w = .ok (.enter 91 vs) w := by kernel_rfl
theorem kept_eat (h : JobOk G e d l) (P : List (List Int)) (hP : P.length ≤ 4294967296) (hx : ∀ x ∈ P, x ≠ [] ∧ x.length ≤ 1000) :
  EatN C1 91 28 1 (P.map dIs) [dJ G e d l] [] (fun ds => ds = (P.filter (psJ G e l)).map dIs) := by
 have hdl := ldelete_eat P 136 [.ref (dJ G e d l)] (fun x => !psJ G e l x) hP (fun x hm => kept1_pure h x (hx x hm).1 (hx x hm).2)
 simp only [Bool.not_not] at hdl
 refine eatn_of c1_ok (pl := pl_lkp) (G := G_lkp) Tryz.func91 rfl Tryz.ntmps91 run_lkp cok_lkp (by simp) ?_
 (conv => whnf)
 refine call_frzR 2 rfl rfl ?_
 refine call_eatN [] rfl rfl rfl hdl ?_; rintro ds rfl
 ((conv => whnf); repeat' ((first | refine odw ?_ | refine ify ?_ | refine ifn ?_ | refine i6 ?_ | refine ati ?_ | refine mst ?_ | refine rmd ?_ | refine ibo (fun _ => ?_) (fun _ => ?_)) <;> conv => whnf))
 exact ⟨rfl, rfl, rfl⟩
def pl_lbr : List (Nat × Plan) := []
def G_lbr : List FuncId := [137]
theorem cok_lbr : codeOk Tryz.prog G_lbr pl_lbr (Tryz.f92.body.getD .skip) = true := by kernel_rfl
theorem run_lbr (vs : Array Value) (w : World) : (callFunc 92 vs).run C1.P w = .ok (.enter 92 vs) w := by kernel_rfl
theorem lbare_mksl (G : Gr) (hG : G.Ok) : MakeSl C1 92 [dG G] 28 1 (fun ds => ds = ((upto G.labels.length).map fun v => [v]).map dIs) := by
 have hsz := hG.size
 have hnx : Pure C1 137 [dG G, .nils] (fun y => y = dIs (upto G.labels.length)) := Sx.Pure.lax (.cons (.refl _) (.cons (.nils 1) .nil)) (by
  have := next_pure G hG [] (by simp)
  rwa [show nextV G [] = upto G.labels.length from if_pos rfl] at this)
 have hul := upto_len G.labels.length
 generalize hL : upto G.labels.length = L at hnx hul
 have hLl : (L.map dI).length = L.length := List.length_map _
 rw [show (L.map fun v => [v]).map dIs = L.map dOne from List.map_map]
 refine mksl_of c1_ok (pl := pl_lbr) (G := G_lbr) Tryz.func92 rfl Tryz.ntmps92 run_lbr cok_lbr (by simp) ?_
 (conv => whnf)
 (repeat' ((first | refine ord_ok ?_ ?_ | refine call_eq rfl hnx ?_ | refine ify ?_ | refine ifn ?_ | refine i6 ?_ | refine ati ?_ | refine mst ?_ | refine rmd ?_ | refine ibo (fun _ => ?_) (fun _ => ?_) | exact oend) <;> conv => whnf))
 refine loop_lo (ι := Nat) (fun i => i ≤ L.length) (fun i => [(9, .d (.int .i64 i)), (8, .d (.int .i64 (L.map dI).length)), (7, .d (dIs L)), (3, .own 300)]) (fun i => [(300, .slice 28 1 ((L.take i).map dOne))]) (fun i => L.length - i) 0 (fun _ => rfl) (Nat.zero_le _)
  (.own 3 300 28 1 rfl rfl (.refl _ _)) ⟨rfl, rfl, rfl, rfl, trivial⟩ ⟨rfl, trivial⟩ ?_
 intro i hi
 refine sxCode_sound c1_ok (G := G_lbr) (pl := pl_lbr) _ _ _ _ (by kernel_rfl) ?_
 by_cases hlt : i < L.length
 ·have hx := List.getElem?_eq_getElem hlt
  generalize L[i] = x at hx
  have hxd : (L.map dI)[i]? = some (.int .i64 x) := by rw [List.getElem?_map, hx]; rfl
  (conv => whnf)
  (repeat' ((first | refine ord_ok ?_ ?_ | refine at_da hxd rfl ?_ | refine ify ?_ | refine ifn ?_ | refine i6 ?_ | refine ati ?_ | refine mst ?_ | refine rmd ?_ | refine ibo (fun _ => ?_) (fun _ => ?_) | exact oend) <;> conv => whnf))
  refine op_again c1_ok (G := []) (.frz 15 rfl (.refl _ _)) (.inr rfl) ?_
  have hfin : (L.take i).map dOne ++ [.list 1 [.int .i64 x]] = (L.take (i + 1)).map dOne := by rw [tk1 hx, List.map_append]; rfl
  ((conv => whnf); repeat' ((first | refine odw ?_ | refine ify ?_ | refine ifn ?_ | refine i6 ?_ | refine ati ?_ | refine mst ?_ | refine rmd ?_ | refine ibo (fun _ => ?_) (fun _ => ?_)) <;> conv => whnf))
  exact ⟨i + 1, _, _, hlt, .refl _ _, ⟨rfl, rfl, rfl, rfl, trivial⟩, ⟨slice_is hfin, trivial⟩, by omega⟩
 ·have hii : L.take i = L := List.take_of_length_le (by omega)
  rw [hii]
  ((conv => whnf); repeat' ((first | refine odw ?_ | refine ify ?_ | refine ifn ?_ | refine i6 ?_ | refine ati ?_ | refine mst ?_ | refine rmd ?_ | refine ibo (fun _ => ?_) (fun _ => ?_)) <;> conv => whnf))
  exact ⟨rfl, rfl, rfl⟩
def pl_lst : List (Nat × Plan) := [(4, .leaf [1, 0, 2, 3, 0, 0] [1, 0, 2, 3, 4, 5] [0, 0, 2, 7, 15, 31])]
def G_lst : List FuncId := [92, 75]
theorem cok_lst : codeOk Tryz.prog G_lst pl_lst (Tryz.f40.body.getD .skip) = true := by kernel_rfl
theorem run_lst (vs : Array Value) (w : World) : (callFunc 40 vs).run C1.P w = .ok (.enter 40 vs) w := by kernel_rfl
theorem start_pure (h : JobOk G e d l) : Pure C1 40 [dJ G e d l] (fun z => z = .tuple [dLs (rowP (wordsG G e) (psJ G e l) 0), .nili]) := by
 have hw := words_pure h
 have hok := words_ok h.ok (by have := h.n; omega) h.m e
 have hsm := small_len h
 have hbr := lbare_mksl (wordsG G e) hok
 have hkp := kept_eat h ((upto (wordsG G e).labels.length).map fun v => [v]) (by rw [List.length_map, upto_len]; omega) (fun x hx => by obtain ⟨v, _, rfl⟩ := List.mem_map.1 hx; exact ⟨by simp, by simp⟩)
 refine pure_of c1_ok (pl := pl_lst) (G := G_lst) Tryz.func40 rfl Tryz.ntmps40 run_lst cok_lst (by simp) ?_
 (conv => whnf)
 (repeat' ((first | refine ord_ok ?_ ?_ | refine call_eq rfl hw ?_ | refine call_mkslE 300 rfl rfl hbr ?_ | refine call_eatE [_] rfl rfl rfl hkp ?_ | refine ify ?_ | refine ifn ?_ | refine i6 ?_ | refine ati ?_ | refine mst ?_ | refine rmd ?_ | refine ibo (fun _ => ?_) (fun _ => ?_) | exact oend) <;> conv => whnf))
 exact rfl
def pl_lgw : List (Nat × Plan) := []
def G_lgw : List FuncId := [118, 119]
theorem cok_lgw : codeOk Tryz.prog G_lgw pl_lgw (Tryz.f76.body.getD .skip) = true := by kernel_rfl
theorem run_lgw (vs : Array Value) (w : World) : (callFunc 76 vs).run C1.P w = .ok (.enter 76 vs) w := by kernel_rfl
theorem lgrow_pure (h : JobOk G e d l) (X : List Int) (hx : X.length ≤ 900) : Pure C1 76 [dJ G e d l, dG (wordsG G e), dIs X] (fun z => z = dLs (growP (wordsG G e) (psJ G e l) X)) := by
 have hok := words_ok h.ok (by have := h.n; omega) h.m e
 have hg := grow_pure (wordsG G e) hok X (by omega)
 have hXl : (X.map dI).length = X.length := List.length_map _
 have hgl : (growV (wordsG G e) X).length ≤ 4294967296 := by
  unfold growV
  split
  ·exact Nat.le_trans (List.length_filter_le _ _) (nextV_len hok (by omega))
  ·simp
 have hkp := kept_eat h (growL (wordsG G e) X) (by unfold growL; rw [List.length_map]; exact hgl) (fun x hm => by
  unfold growL at hm
  obtain ⟨v, _, rfl⟩ := List.mem_map.1 hm
  exact ⟨by simp, by rw [List.length_append, List.length_singleton]; omega⟩)
 refine pure_of c1_ok (pl := pl_lgw) (G := G_lgw) Tryz.func76 rfl Tryz.ntmps76 run_lgw cok_lgw (by simp) ?_
 (conv => whnf)
 refine call_pure rfl hg ?_
 unfold growP
 unfold growL at hkp ⊢
 generalize growV (wordsG G e) X = L at hgl hkp ⊢
 have hLl : (L.map dI).length = L.length := List.length_map _
 rintro y (rfl | ⟨rfl, rfl⟩)
 ·((conv => whnf); repeat' ((first | refine odw ?_ | refine ify ?_ | refine ifn ?_ | refine i6 ?_ | refine ati ?_ | refine mst ?_ | refine rmd ?_ | refine ibo (fun _ => ?_) (fun _ => ?_)) <;> conv => whnf))
  refine loop_lo (ι := Nat) (fun i => i ≤ L.length) (fun i => [(14, .d (.int .i64 i)), (13, .d (.int .i64 (L.map dI).length)), (12, .d (dIs L)), (7, .own 300), (3, .own 3), (2, .d (dIs X))]) (fun i => [(3, .cells 58 [.d (dG G), .d (.bool e), .d (.int .i64 d), .d (dOs l)]), (300, .slice 28 1 (((L.take i).map fun v => X ++ [v]).map dIs))]) (fun i => L.length - i) 0 (fun _ => rfl) (Nat.zero_le _)
   (.own 7 300 28 1 rfl rfl (.refl _ _)) ⟨rfl, rfl, rfl, rfl, rfl, rfl, trivial⟩ ⟨rfl, rfl, trivial⟩ ?_
  intro i hi
  refine sxCode_sound c1_ok (G := G_lgw) (pl := pl_lgw) _ _ _ _ (by kernel_rfl) ?_
  by_cases hlt : i < L.length
  ·have hx := List.getElem?_eq_getElem hlt
   generalize L[i] = v at hx
   have hxd : (L.map dI)[i]? = some (.int .i64 v) := by rw [List.getElem?_map, hx]; rfl
   have hnl : (((L.take i).map fun v => X ++ [v]).map dIs).length = i := by rw [List.length_map, List.length_map, List.length_take]; omega
   have hfin : ((L.take i).map fun v => X ++ [v]).map dIs ++ [.list 1 (X.map dI ++ [.int .i64 v])] = ((L.take (i + 1)).map fun v => X ++ [v]).map dIs := by rw [tk1 hx, List.map_append, List.map_append]; simp [dIs, dI]
   (conv => whnf)
   (repeat' ((first | refine ord_ok ?_ ?_ | refine at_da hxd rfl ?_ | refine call_clip 400 rfl rfl clip_fn fun a => ?_ | refine op_appClip 400 23 20 c1_ok rfl rfl rfl rfl (by decide) (by decide) rfl rfl rfl rfl (by simp) rfl rfl rfl (mostOf_le (by simp only [List.length_map, List.length_cons, List.length_nil]; omega) rfl rfl) rfl ⟨rfl, rfl, rfl, rfl, trivial⟩ ?_ | refine ify ?_ | refine ifn ?_ | refine i6 ?_ | refine ati ?_ | refine mst ?_ | refine rmd ?_ | refine ibo (fun _ => ?_) (fun _ => ?_) | exact oend) <;> conv => whnf))
   refine op_again c1_ok (G := []) (.frz 23 rfl (.refl _ _)) (.inr rfl) ?_
   ((conv => whnf); repeat' ((first | refine odw ?_ | refine ify ?_ | refine ifn ?_ | refine i6 ?_ | refine ati ?_ | refine mst ?_ | refine rmd ?_ | refine ibo (fun _ => ?_) (fun _ => ?_)) <;> conv => whnf))
   exact ⟨i + 1, _, _, hlt, .refl _ _, ⟨rfl, rfl, rfl, rfl, rfl, rfl, trivial⟩, ⟨rfl, slice_is hfin, trivial⟩, by omega⟩
  ·have hii : L.take i = L := List.take_of_length_le (by omega)
   rw [hii]
   (conv => whnf)
   (repeat' ((first | refine ord_ok ?_ ?_ | refine call_eatE [_] rfl rfl rfl hkp ?_ | refine ify ?_ | refine ifn ?_ | refine i6 ?_ | refine ati ?_ | refine mst ?_ | refine rmd ?_ | refine ibo (fun _ => ?_) (fun _ => ?_) | exact oend) <;> conv => whnf))
   exact rfl
 ·((conv => whnf); repeat' ((first | refine odw ?_ | refine ify ?_ | refine ifn ?_ | refine i6 ?_ | refine ati ?_ | refine mst ?_ | refine rmd ?_ | refine ibo (fun _ => ?_) (fun _ => ?_)) <;> conv => whnf))
  refine loop_lo (ι := Nat) (fun i => i = 0) (fun _ => [(14, .d (.int .i64 0)), (13, .d (.int .i64 0)), (7, .own 300), (3, .own 3), (2, .d (dIs X))]) (fun _ => [(3, .cells 58 [.d (dG G), .d (.bool e), .d (.int .i64 d), .d (dOs l)]), (300, .slice 28 1 [])]) (fun _ => 0) 0 (fun _ => rfl) rfl
   (.own 7 300 28 1 rfl rfl (.refl _ _)) ⟨rfl, rfl, rfl, rfl, rfl, trivial⟩ ⟨rfl, rfl, trivial⟩ ?_
  rintro i rfl
  refine sxCode_sound c1_ok (G := G_lgw) (pl := pl_lgw) _ _ _ _ (by kernel_rfl) ?_
  (conv => whnf)
  (repeat' ((first | refine ord_ok ?_ ?_ | refine call_eatE [_] rfl rfl rfl hkp ?_ | refine ify ?_ | refine ifn ?_ | refine i6 ?_ | refine ati ?_ | refine mst ?_ | refine rmd ?_ | refine ibo (fun _ => ?_) (fun _ => ?_) | exact oend) <;> conv => whnf))
  exact rfl
end
end Go.Proofs.YtjejpdfldmempaaGreatDoor
end
