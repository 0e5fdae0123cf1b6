/- Merged: Vlc. -/
import Derived.Test.YtjejpdfldmempaaGreatDoorOen
import Derived.Test.YtjejpdfldmempaaGreatDoorlgap
import Derived.Test.YtjejpdfldmempaaGreatDoorlgao
section
namespace Go.Proofs.YtjejpdfldmempaaGreatDoor
open Go.Sx Go.RowKit Go.Reg Go.Gr
set_option maxRecDepth 100000
def nextP (E : List Edg) (l : List Int) (v : Int) : Bool := decide (l = []) || decide (0 ≤ besV E l v)
def listR (E : List Edg) : Nat → List Int → List Int → Option (List Int)
 | 0, l, _ => some l
 | n + 1, l, left => match left.findIdx? (nextP E l) with
   | some i => listR E n (l ++ [left[i]?.getD 0]) (left.eraseIdx i)
   | none => none
def listY : Option (List Int) → Da
 | some l => .tuple [dIs l, .bool true]
 | none => .tuple [.nils, .bool false]
def listV (G : Gr) (s : List Int) : Option (List Int) := if (setOf s).any (fun v => !hasV G v) = true then none else listR G.edges (setOf s).length [] (setOf s)
end Go.Proofs.YtjejpdfldmempaaGreatDoor
namespace Go.Proofs.YtjejpdfldmempaaGreatDoor
open Go.Sx Go.RowKit Go.Reg Go.Gr
set_option maxRecDepth 100000
def fitsV (G : Gr) (l : List Int) (v : Int) : Bool := match l[0]? with
 | none => hasV G v
 | some y => match l.findIdx? (besP G.edges v) with
   | none => false
   | some i => !decide (v ∈ l) && (!decide (v < y) && !(l.drop (i + 1)).any (fun u => decide (v < u)))
theorem dIs_drop (l : List Int) (i : Nat) : dIs (l.drop i) = .list 1 ((l.map dI).drop i) := by unfold dIs; rw [List.map_drop]
def pl_vf1 : List (Nat × Plan) := []
def G_vf1 : List FuncId := []
theorem cok_vf1 : codeOk Tryz.prog G_vf1 pl_vf1 (Tryz.f188.body.getD .skip) = true := by kernel_rfl
theorem run_vf1 (vs : Array Value) (w : World) : (callFunc 188 vs).run C1.P w = .ok (.enter 188 vs) w := by kernel_rfl
theorem fits1_pure (v u : Int) : Pure C1 188 [.int .i64 u, .ref (.int .i64 v)] (fun y => y = .bool (decide (v < u))) := by
 refine pure_of c1_ok (pl := pl_vf1) (G := G_vf1) Tryz.func188 rfl Tryz.ntmps188 run_vf1 cok_vf1 (by simp) ?_
 ((conv => whnf); repeat' ((first | refine odw ?_ | refine ify ?_ | refine ifn ?_ | refine i6 ?_ | refine ati ?_ | refine mst ?_ | refine rmd ?_ | refine ibo (fun _ => ?_) (fun _ => ?_)) <;> conv => whnf))
 exact rfl
def pl_vft : List (Nat × Plan) := [(4, .leaf [0, 0, 0, 0, 1, 2, 0, 0, 1, 0, 0, 1, 0, 0] [0, 1, 2, 3, 4, 5, 6, 7, 9, 10, 8, 11, 12, 13] [0, 1, 3, 7, 7, 31, 63, 127, 255, 255, 767, 1791, 4095, 8191])]
def G_vft : List FuncId := [184, 185, 186, 187]
theorem cok_vft : codeOk Tryz.prog G_vft pl_vft (Tryz.f123.body.getD .skip) = true := by kernel_rfl
theorem run_vft (vs : Array Value) (w : World) : (callFunc 123 vs).run C1.P w = .ok (.enter 123 vs) w := by kernel_rfl
theorem fits_pure (G : Gr) (hG : G.Ok) (l : List Int) (v : Int) : Pure C1 123 [dG G, dIs l, .int .i64 v] (fun y => y = .bool (fitsV G l v)) := by
 refine Pure.assume (fun O w us hr => by obtain ⟨v, vs, rfl, h1, h2⟩ := reps_inv hr; obtain ⟨v2, vs2, rfl, h3, _⟩ := reps_inv h2; exact ints_len h3) fun hm => ?_
 have hll : (l.map dI).length = l.length := List.length_map _
 refine pure_of c1_ok (pl := pl_vft) (G := G_vft) Tryz.func123 rfl Tryz.ntmps123 run_vft cok_vft (by simp) ?_
 cases hx : l[0]? with
 | none =>
   have hl : l = [] := by cases l with | nil => rfl | cons x l => simp at hx
   subst hl
   (conv => whnf)
   (repeat' ((first | refine ord_ok ?_ ?_ | refine call_eq rfl (vhas_pure G v) ?_ | refine ify ?_ | refine ifn ?_ | refine i6 ?_ | refine ati ?_ | refine mst ?_ | refine rmd ?_ | refine ibo (fun _ => ?_) (fun _ => ?_) | exact oend) <;> conv => whnf))
   exact rfl
 | some y =>
   have hpos := (List.getElem?_eq_some_iff.1 hx).1
   have hxd : (l.map dI)[0]? = some (.int .i64 y) := by rw [List.getElem?_map, hx]; rfl
   have hbs := bes_pure G hG l v
   have hct := contains_pure l v
   have he : fitsV G l v = match l.findIdx? (besP G.edges v) with
    | none => false
    | some i => !decide (v ∈ l) && (!decide (v < y) && !(l.drop (i + 1)).any (fun u => decide (v < u))) := by unfold fitsV; rw [hx]
   rw [he]
   unfold besV idxF at hbs
   cases hf : l.findIdx? (besP G.edges v) with
   | none =>
     rw [hf] at hbs
     simp only [optI] at hbs
     (conv => whnf)
     (repeat' ((first | refine ord_ok ?_ ?_ | refine call_eq rfl hbs ?_ | refine ify ?_ | refine ifn ?_ | refine i6 ?_ | refine ati ?_ | refine mst ?_ | refine rmd ?_ | refine ibo (fun _ => ?_) (fun _ => ?_) | exact oend) <;> conv => whnf))
     exact rfl
   | some i =>
     rw [hf] at hbs
     simp only [optI] at hbs
     have hil : i < l.length := by
      rw [List.findIdx?_eq_some_iff_getElem] at hf
      exact hf.1
     by_cases hc : v ∈ l
     ·rw [decide_eq_true hc] at hct ⊢
      (conv => whnf)
      (repeat' ((first | refine ord_ok ?_ ?_ | refine call_eq rfl hbs ?_ | refine call_eq rfl hct ?_ | refine ify ?_ | refine ifn ?_ | refine i6 ?_ | refine ati ?_ | refine mst ?_ | refine rmd ?_ | refine ibo (fun _ => ?_) (fun _ => ?_) | exact oend) <;> conv => whnf))
      exact rfl
     ·rw [decide_eq_false hc] at hct ⊢
      by_cases hv : v < y
      ·rw [decide_eq_true hv]
       (conv => whnf)
       (repeat' ((first | refine ord_ok ?_ ?_ | refine call_eq rfl hbs ?_ | refine call_eq rfl hct ?_ | refine at_da hxd rfl ?_ | refine ify ?_ | refine ifn ?_ | refine i6 ?_ | refine ati ?_ | refine mst ?_ | refine rmd ?_ | refine ibo (fun _ => ?_) (fun _ => ?_) | exact oend) <;> conv => whnf))
       exact rfl
      ·rw [decide_eq_false hv]
       have hcf := containsF_pure (l.drop (i + 1)) 188 [.ref (.int .i64 v)] (fun u => decide (v < u)) (fun u _ => fits1_pure v u)
       rw [dIs_drop] at hcf
       (conv => whnf)
       (repeat' ((first | refine ord_ok ?_ ?_ | refine call_eq rfl hbs ?_ | refine call_eq rfl hct ?_ | refine at_da hxd rfl ?_ | refine sl_is (i + 1) rfl (by omega) ?_ | refine call_eqb tab rfl hcf rfl ?_ | refine ify ?_ | refine ifn ?_ | refine i6 ?_ | refine ati ?_ | refine mst ?_ | refine rmd ?_ | refine ibo (fun _ => ?_) (fun _ => ?_) | exact oend) <;> conv => whnf))
       exact rfl
def canonV (G : Gr) (l : List Int) : Bool := (List.range l.length).all fun i => match l[i]? with
 | some v => fitsV G (l.take i) v
 | none => true
theorem canonV_no {G : Gr} {l : List Int} {i : Nat} {v : Int} (h : l[i]? = some v) (h2 : fitsV G (l.take i) v = false) : canonV G l = false := by
 unfold canonV
 rw [List.all_eq_false]
 exact ⟨i, by simp [(List.getElem?_eq_some_iff.1 h).1], by simp [h, h2]⟩
theorem canonV_yes {G : Gr} {l : List Int} (h : ∀ (i : Nat) (v : Int), l[i]? = some v → fitsV G (l.take i) v = true) : canonV G l = true := by
 unfold canonV
 rw [List.all_eq_true]
 intro i _
 cases hx : l[i]? with
 | none => rfl
 | some v => exact h i v hx
def pl_vcn : List (Nat × Plan) := []
def G_vcn : List FuncId := [123]
theorem cok_vcn : codeOk Tryz.prog G_vcn pl_vcn (Tryz.f81.body.getD .skip) = true := by kernel_rfl
theorem run_vcn (vs : Array Value) (w : World) : (callFunc 81 vs).run C1.P w = .ok (.enter 81 vs) w := by kernel_rfl
theorem canon_pure (G : Gr) (hG : G.Ok) (l : List Int) : Pure C1 81 [dG G, dIs l] (fun y => y = .bool (canonV G l)) := by
 refine Pure.assume (fun O w us hr => by obtain ⟨v, vs, rfl, h1, h2⟩ := reps_inv hr; obtain ⟨v2, vs2, rfl, h3, _⟩ := reps_inv h2; exact ints_len h3) fun hm => ?_
 have hl : (l.map dI).length = l.length := List.length_map _
 refine pure_of c1_ok (pl := pl_vcn) (G := G_vcn) Tryz.func81 rfl Tryz.ntmps81 run_vcn cok_vcn (by simp) ?_
 ((conv => whnf); repeat' ((first | refine odw ?_ | refine ify ?_ | refine ifn ?_ | refine i6 ?_ | refine ati ?_ | refine mst ?_ | refine rmd ?_ | refine ibo (fun _ => ?_) (fun _ => ?_)) <;> conv => whnf))
 refine loop_lo (ι := Nat) (fun i => i ≤ l.length ∧ ∀ (j : Nat) (v : Int), j < i → l[j]? = some v → fitsV G (l.take j) v = true) (fun i => [(9, .d (.int .i64 i)), (8, .d (.int .i64 (l.map dI).length)), (7, .d (dIs l)), (1, .d (dIs l)), (0, .d (dG G))]) (fun _ => []) (fun i => l.length - i) 0 (fun _ => rfl) ⟨Nat.zero_le _, by intro j v h; omega⟩ (.refl _ _) ⟨rfl, rfl, rfl, rfl, rfl, trivial⟩ trivial ?_
 rintro i ⟨hi, hne⟩
 refine sxCode_sound c1_ok (G := G_vcn) (pl := pl_vcn) _ _ _ _ (by kernel_rfl) ?_
 by_cases hlt : i < l.length
 ·have hx := List.getElem?_eq_getElem hlt
  generalize l[i] = y at hx
  have hxd : (l.map dI)[i]? = some (.int .i64 y) := by rw [List.getElem?_map, hx]; rfl
  have h1 := fits_pure G hG (l.take i) y
  rw [dIs_take] at h1
  have hi2 : i ≤ (l.map dI).length := by omega
  cases hv : fitsV G (l.take i) y with
  | false =>
    rw [hv] at h1
    rw [canonV_no hx hv]
    (conv => whnf)
    (repeat' ((first | refine ord_ok ?_ ?_ | refine at_da hxd rfl ?_ | refine hi_is rfl hi2 ?_ | refine call_eq rfl h1 ?_ | refine ify ?_ | refine ifn ?_ | refine i6 ?_ | refine ati ?_ | refine mst ?_ | refine rmd ?_ | refine ibo (fun _ => ?_) (fun _ => ?_) | exact oend) <;> conv => whnf))
    exact rfl
  | true =>
    rw [hv] at h1
    (conv => whnf)
    (repeat' ((first | refine ord_ok ?_ ?_ | refine at_da hxd rfl ?_ | refine hi_is rfl hi2 ?_ | refine call_eq rfl h1 ?_ | refine ify ?_ | refine ifn ?_ | refine i6 ?_ | refine ati ?_ | refine mst ?_ | refine rmd ?_ | refine ibo (fun _ => ?_) (fun _ => ?_) | exact oend) <;> conv => whnf))
    refine ⟨i + 1, _, _, ⟨hlt, ?_⟩, .refl _ _, ⟨rfl, rfl, rfl, rfl, rfl, trivial⟩, trivial, by omega⟩
    intro j v hj hjv
    by_cases hji : j = i
    ·subst hji; rw [hx] at hjv; cases hjv; exact hv
    ·exact hne j v (by omega) hjv
 ·rw [canonV_yes (fun j v h => hne j v (by have := (List.getElem?_eq_some_iff.1 h).1; omega) h)]
  ((conv => whnf); repeat' ((first | refine odw ?_ | refine ify ?_ | refine ifn ?_ | refine i6 ?_ | refine ati ?_ | refine mst ?_ | refine rmd ?_ | refine ibo (fun _ => ?_) (fun _ => ?_)) <;> conv => whnf))
  exact rfl
end Go.Proofs.YtjejpdfldmempaaGreatDoor
namespace Go.Proofs.YtjejpdfldmempaaGreatDoor
open Go.Sx Go.RowKit Go.Reg Go.Gr
set_option maxRecDepth 100000
theorem but_mksl (a b : List Int) (ha : a.length ≤ 4294967296) (hr : b.Pairwise (· < ·)) (hl : b.length ≤ 4294967296) : MakeSl C1 199 [dIs a, dIs b] 3 1 (fun ds => ds = (a.filter fun x => !decide (x ∈ b)).map dI) := by
 refine mksl_of c1_ok (pl := pl_sbut) (G := G_sbut) Tryz.func199 rfl Tryz.ntmps199 run_sbut cok_sbut (by simp) ?_
 (conv => whnf)
 refine call_mkslb tab 29 rfl rfl (kept_mksl a _ [.ref (dIs b)] _ ha (fun x _ => but1_pure b hr hl x)) (fun ds h => by subst h; exact flats_ints _) ?_; rintro ds rfl
 ((conv => whnf); repeat' ((first | refine odw ?_ | refine ify ?_ | refine ifn ?_ | refine i6 ?_ | refine ati ?_ | refine mst ?_ | refine rmd ?_ | refine ibo (fun _ => ?_) (fun _ => ?_)) <;> conv => whnf))
 exact ⟨rfl, rfl, rfl⟩
def nearI (G : Gr) (v : Int) : List Int := if 0 ≤ v ∧ v < G.labels.length then nearOf G.edges v.toNat else []
theorem nearI_len {G : Gr} (hG : G.Ok) (v : Int) : (nearI G v).length ≤ 32768 := by
 unfold nearI
 split
 ·have := deg_le G.edges v.toNat
  have := hG.esize
  unfold deg at *; omega
 ·simp
def nextV (G : Gr) (l : List Int) : List Int := if l = [] then upto G.labels.length else (setOf (l.flatMap (nearI G))).filter fun x => !decide (x ∈ setOf l)
theorem nears_len {G : Gr} (hG : G.Ok) (l : List Int) : (l.flatMap (nearI G)).length ≤ l.length * 32768 := by
 induction l with
 | nil => simp
 | cons x l ih =>
   have := nearI_len hG x
   simp only [List.flatMap_cons, List.length_append, List.length_cons]; omega
theorem nears_step {G : Gr} {l : List Int} {i : Nat} {x : Int} (h : l[i]? = some x) : (l.take (i + 1)).flatMap (nearI G) = (l.take i).flatMap (nearI G) ++ nearI G x := by
 rw [List.take_add_one, h, Option.toList_some, List.flatMap_append]; simp
def pl_vnx : List (Nat × Plan) := []
def G_vnx : List FuncId := [198]
theorem cok_vnx : codeOk Tryz.prog G_vnx pl_vnx (Tryz.f137.body.getD .skip) = true := by kernel_rfl
theorem run_vnx (vs : Array Value) (w : World) : (callFunc 137 vs).run C1.P w = .ok (.enter 137 vs) w := by kernel_rfl
theorem next_mksl (G : Gr) (hG : G.Ok) (l : List Int) (hb : l.length ≤ 100000) : MakeSl C1 137 [dG G, dIs l] 3 1 (fun ds => ds = (nextV G l).map dI) := by
 have hll : (l.map dI).length = l.length := List.length_map _
 have hsz := hG.size
 refine mksl_of c1_ok (pl := pl_vnx) (G := G_vnx) Tryz.func137 rfl Tryz.ntmps137 run_vnx cok_vnx (by simp) ?_
 unfold nextV
 by_cases hl : l = []
 ·rw [if_pos hl]
  subst hl
  (conv => whnf)
  (repeat' ((first | refine ord_ok ?_ ?_ | refine call_eq rfl (len_pure G) ?_ | refine ify ?_ | refine ifn ?_ | refine i6 ?_ | refine ati ?_ | refine mst ?_ | refine rmd ?_ | refine ibo (fun _ => ?_) (fun _ => ?_) | exact oend) <;> conv => whnf))
  refine loop_lo (ι := Nat) (fun v => v ≤ G.labels.length) (fun v => [(14, .d (.int .i64 v)), (13, .d (.int .i64 G.labels.length)), (5, .own 300)]) (fun v => [(300, .slice 3 1 ((upto v).map dI))]) (fun v => G.labels.length - v) 0 (fun _ => rfl) (Nat.zero_le _)
   (.own 5 300 3 1 rfl rfl (.refl _ _)) ⟨rfl, rfl, rfl, trivial⟩ ⟨rfl, trivial⟩ ?_
  intro v hv
  refine sxCode_sound c1_ok (G := G_vnx) (pl := pl_vnx) _ _ _ _ (by kernel_rfl) ?_
  by_cases hlt : v < G.labels.length
  ·have hul := upto_len v
   have hfin : (upto v).map dI ++ [.int .i64 (v : Int)] = (upto (v + 1)).map dI := by rw [upto_succ, List.map_append]; rfl
   ((conv => whnf); repeat' ((first | refine odw ?_ | refine ify ?_ | refine ifn ?_ | refine i6 ?_ | refine ati ?_ | refine mst ?_ | refine rmd ?_ | refine ibo (fun _ => ?_) (fun _ => ?_)) <;> conv => whnf))
   exact ⟨v + 1, _, _, hlt, .refl _ _, ⟨rfl, rfl, rfl, trivial⟩, ⟨slice_is hfin, trivial⟩, by omega⟩
  ·have : v = G.labels.length := by omega
   subst this
   ((conv => whnf); repeat' ((first | refine odw ?_ | refine ify ?_ | refine ifn ?_ | refine i6 ?_ | refine ati ?_ | refine mst ?_ | refine rmd ?_ | refine ibo (fun _ => ?_) (fun _ => ?_)) <;> conv => whnf))
   exact ⟨rfl, rfl, rfl⟩
 ·rw [if_neg hl]
  have hl0 : ¬ ((l.map dI).length : Int) = 0 := by rw [hll]; have := List.length_pos_iff.2 hl; omega
  ((conv => whnf); repeat' ((first | refine odw ?_ | refine ify ?_ | refine ifn ?_ | refine i6 ?_ | refine ati ?_ | refine mst ?_ | refine rmd ?_ | refine ibo (fun _ => ?_) (fun _ => ?_)) <;> conv => whnf))
  refine loop_lo (ι := Nat) (fun i => i ≤ l.length) (fun i => [(25, .d (.int .i64 i)), (24, .d (.int .i64 (l.map dI).length)), (23, .d (dIs l)), (5, .own 300), (1, .d (dIs l)), (0, .d (dG G))]) (fun i => [(300, .slice 3 1 (((l.take i).flatMap (nearI G)).map dI))]) (fun i => l.length - i) 0 (fun _ => rfl) (Nat.zero_le _)
   (.own 5 300 3 1 rfl rfl (.refl _ _)) ⟨rfl, rfl, rfl, rfl, rfl, rfl, trivial⟩ ⟨rfl, trivial⟩ ?_
  intro i hi
  refine sxCode_sound c1_ok (G := G_vnx) (pl := pl_vnx) _ _ _ _ (by kernel_rfl) ?_
  have hnl := nears_len hG (l.take i)
  rw [List.length_take] at hnl
  by_cases hlt : i < l.length
  ·have hx := List.getElem?_eq_getElem hlt
   generalize l[i] = x at hx
   have hxd : (l.map dI)[i]? = some (.int .i64 x) := by rw [List.getElem?_map, hx]; rfl
   have hst := nears_step (G := G) hx
   have hxl := nearI_len hG x
   have hnp := near_pure G hG x
   have hml : ((l.take i).flatMap (nearI G)).length + (nearI G x).length ≤ 4294967296 := by omega
   unfold nearY at hnp
   unfold nearI at hst hxl hml
   by_cases hr : 0 ≤ x ∧ x < G.labels.length
   ·rw [if_pos hr] at hnp hst hxl hml
    have hfin : ((l.take i).flatMap (nearI G)).map dI ++ (nearOf G.edges x.toNat).map dI = ((l.take (i + 1)).flatMap (nearI G)).map dI := by
     rw [← List.map_append]; exact congrArg (List.map dI) hst.symm
    (conv => whnf)
    (repeat' ((first | refine ord_ok ?_ ?_ | refine at_da hxd rfl ?_ | refine call_eq rfl hnp ?_ | refine ify ?_ | refine ifn ?_ | refine i6 ?_ | refine ati ?_ | refine mst ?_ | refine rmd ?_ | refine ibo (fun _ => ?_) (fun _ => ?_) | exact oend) <;> conv => whnf))
    exact ⟨i + 1, _, _, hlt, .refl _ _, ⟨rfl, rfl, rfl, rfl, rfl, rfl, trivial⟩, ⟨slice_is hfin, trivial⟩, by omega⟩
   ·rw [if_neg hr] at hnp hst hxl hml
    have hfin : ((l.take i).flatMap (nearI G)).map dI ++ [] = ((l.take (i + 1)).flatMap (nearI G)).map dI := by
     rw [List.append_nil] at hst ⊢; exact congrArg (List.map dI) hst.symm
    (conv => whnf)
    (repeat' ((first | refine ord_ok ?_ ?_ | refine at_da hxd rfl ?_ | refine call_eq rfl hnp ?_ | refine ify ?_ | refine ifn ?_ | refine i6 ?_ | refine ati ?_ | refine mst ?_ | refine rmd ?_ | refine ibo (fun _ => ?_) (fun _ => ?_) | exact oend) <;> conv => whnf))
    exact ⟨i + 1, _, _, hlt, .refl _ _, ⟨rfl, rfl, rfl, rfl, rfl, rfl, trivial⟩, ⟨slice_is hfin, trivial⟩, by omega⟩
  ·have hii : l.take i = l := List.take_of_length_le (by omega)
   rw [hii]
   have hnl2 := nears_len hG l
   have ho1 := of_pure (l.flatMap (nearI G)) (by omega)
   have ho2 := of_pure l (by omega)
   have hs1 := setOf_len (l.flatMap (nearI G))
   have hs2 := setOf_len l
   ((conv => whnf); repeat' ((first | refine odw ?_ | refine ify ?_ | refine ifn ?_ | refine i6 ?_ | refine ati ?_ | refine mst ?_ | refine rmd ?_ | refine ibo (fun _ => ?_) (fun _ => ?_)) <;> conv => whnf))
   refine call_frz 300 rfl ?_
   refine call_eq rfl ho1 ?_
   (conv => whnf)
   (repeat' ((first | refine ord_ok ?_ ?_ | refine call_eq rfl ho2 ?_ | refine ify ?_ | refine ifn ?_ | refine i6 ?_ | refine ati ?_ | refine mst ?_ | refine rmd ?_ | refine ibo (fun _ => ?_) (fun _ => ?_) | exact oend) <;> conv => whnf))
   refine call_mksl 29 rfl rfl (but_mksl (setOf (l.flatMap (nearI G))) (setOf l) (by omega) (setOf_spec l).1 (by omega)) ?_; rintro ds rfl
   ((conv => whnf); repeat' ((first | refine odw ?_ | refine ify ?_ | refine ifn ?_ | refine i6 ?_ | refine ati ?_ | refine mst ?_ | refine rmd ?_ | refine ibo (fun _ => ?_) (fun _ => ?_)) <;> conv => whnf))
   exact ⟨rfl, rfl, rfl⟩
theorem next_pure (G : Gr) (hG : G.Ok) (l : List Int) (hb : l.length ≤ 100000) : Pure C1 137 [dG G, dIs l] (fun y => y = dIs (nextV G l)) := by
 have hll : (l.map dI).length = l.length := List.length_map _
 have hsz := hG.size
 refine pure_of c1_ok (pl := pl_vnx) (G := G_vnx) Tryz.func137 rfl Tryz.ntmps137 run_vnx cok_vnx (by simp) ?_
 unfold nextV
 by_cases hl : l = []
 ·rw [if_pos hl]
  subst hl
  (conv => whnf)
  (repeat' ((first | refine ord_ok ?_ ?_ | refine call_eq rfl (len_pure G) ?_ | refine ify ?_ | refine ifn ?_ | refine i6 ?_ | refine ati ?_ | refine mst ?_ | refine rmd ?_ | refine ibo (fun _ => ?_) (fun _ => ?_) | exact oend) <;> conv => whnf))
  refine loop_lo (ι := Nat) (fun v => v ≤ G.labels.length) (fun v => [(14, .d (.int .i64 v)), (13, .d (.int .i64 G.labels.length)), (5, .own 300)]) (fun v => [(300, .slice 3 1 ((upto v).map dI))]) (fun v => G.labels.length - v) 0 (fun _ => rfl) (Nat.zero_le _)
   (.own 5 300 3 1 rfl rfl (.refl _ _)) ⟨rfl, rfl, rfl, trivial⟩ ⟨rfl, trivial⟩ ?_
  intro v hv
  refine sxCode_sound c1_ok (G := G_vnx) (pl := pl_vnx) _ _ _ _ (by kernel_rfl) ?_
  by_cases hlt : v < G.labels.length
  ·have hul := upto_len v
   have hfin : (upto v).map dI ++ [.int .i64 (v : Int)] = (upto (v + 1)).map dI := by rw [upto_succ, List.map_append]; rfl
   ((conv => whnf); repeat' ((first | refine odw ?_ | refine ify ?_ | refine ifn ?_ | refine i6 ?_ | refine ati ?_ | refine mst ?_ | refine rmd ?_ | refine ibo (fun _ => ?_) (fun _ => ?_)) <;> conv => whnf))
   exact ⟨v + 1, _, _, hlt, .refl _ _, ⟨rfl, rfl, rfl, trivial⟩, ⟨slice_is hfin, trivial⟩, by omega⟩
  ·have : v = G.labels.length := by omega
   subst this
   ((conv => whnf); repeat' ((first | refine odw ?_ | refine ify ?_ | refine ifn ?_ | refine i6 ?_ | refine ati ?_ | refine mst ?_ | refine rmd ?_ | refine ibo (fun _ => ?_) (fun _ => ?_)) <;> conv => whnf))
   exact rfl
 ·rw [if_neg hl]
  have hl0 : ¬ ((l.map dI).length : Int) = 0 := by rw [hll]; have := List.length_pos_iff.2 hl; omega
  ((conv => whnf); repeat' ((first | refine odw ?_ | refine ify ?_ | refine ifn ?_ | refine i6 ?_ | refine ati ?_ | refine mst ?_ | refine rmd ?_ | refine ibo (fun _ => ?_) (fun _ => ?_)) <;> conv => whnf))
  refine loop_lo (ι := Nat) (fun i => i ≤ l.length) (fun i => [(25, .d (.int .i64 i)), (24, .d (.int .i64 (l.map dI).length)), (23, .d (dIs l)), (5, .own 300), (1, .d (dIs l)), (0, .d (dG G))]) (fun i => [(300, .slice 3 1 (((l.take i).flatMap (nearI G)).map dI))]) (fun i => l.length - i) 0 (fun _ => rfl) (Nat.zero_le _)
   (.own 5 300 3 1 rfl rfl (.refl _ _)) ⟨rfl, rfl, rfl, rfl, rfl, rfl, trivial⟩ ⟨rfl, trivial⟩ ?_
  intro i hi
  refine sxCode_sound c1_ok (G := G_vnx) (pl := pl_vnx) _ _ _ _ (by kernel_rfl) ?_
  have hnl := nears_len hG (l.take i)
  rw [List.length_take] at hnl
  by_cases hlt : i < l.length
  ·have hx := List.getElem?_eq_getElem hlt
   generalize l[i] = x at hx
   have hxd : (l.map dI)[i]? = some (.int .i64 x) := by rw [List.getElem?_map, hx]; rfl
   have hst := nears_step (G := G) hx
   have hxl := nearI_len hG x
   have hnp := near_pure G hG x
   have hml : ((l.take i).flatMap (nearI G)).length + (nearI G x).length ≤ 4294967296 := by omega
   unfold nearY at hnp
   unfold nearI at hst hxl hml
   by_cases hr : 0 ≤ x ∧ x < G.labels.length
   ·rw [if_pos hr] at hnp hst hxl hml
    have hfin : ((l.take i).flatMap (nearI G)).map dI ++ (nearOf G.edges x.toNat).map dI = ((l.take (i + 1)).flatMap (nearI G)).map dI := by
     rw [← List.map_append]; exact congrArg (List.map dI) hst.symm
    (conv => whnf)
    (repeat' ((first | refine ord_ok ?_ ?_ | refine at_da hxd rfl ?_ | refine call_eq rfl hnp ?_ | refine ify ?_ | refine ifn ?_ | refine i6 ?_ | refine ati ?_ | refine mst ?_ | refine rmd ?_ | refine ibo (fun _ => ?_) (fun _ => ?_) | exact oend) <;> conv => whnf))
    exact ⟨i + 1, _, _, hlt, .refl _ _, ⟨rfl, rfl, rfl, rfl, rfl, rfl, trivial⟩, ⟨slice_is hfin, trivial⟩, by omega⟩
   ·rw [if_neg hr] at hnp hst hxl hml
    have hfin : ((l.take i).flatMap (nearI G)).map dI ++ [] = ((l.take (i + 1)).flatMap (nearI G)).map dI := by
     rw [List.append_nil] at hst ⊢; exact congrArg (List.map dI) hst.symm
    (conv => whnf)
    (repeat' ((first | refine ord_ok ?_ ?_ | refine at_da hxd rfl ?_ | refine call_eq rfl hnp ?_ | refine ify ?_ | refine ifn ?_ | refine i6 ?_ | refine ati ?_ | refine mst ?_ | refine rmd ?_ | refine ibo (fun _ => ?_) (fun _ => ?_) | exact oend) <;> conv => whnf))
    exact ⟨i + 1, _, _, hlt, .refl _ _, ⟨rfl, rfl, rfl, rfl, rfl, rfl, trivial⟩, ⟨slice_is hfin, trivial⟩, by omega⟩
  ·have hii : l.take i = l := List.take_of_length_le (by omega)
   rw [hii]
   have hnl2 := nears_len hG l
   have ho1 := of_pure (l.flatMap (nearI G)) (by omega)
   have ho2 := of_pure l (by omega)
   have hs1 := setOf_len (l.flatMap (nearI G))
   have hs2 := setOf_len l
   ((conv => whnf); repeat' ((first | refine odw ?_ | refine ify ?_ | refine ifn ?_ | refine i6 ?_ | refine ati ?_ | refine mst ?_ | refine rmd ?_ | refine ibo (fun _ => ?_) (fun _ => ?_)) <;> conv => whnf))
   refine call_frz 300 rfl ?_
   refine call_eq rfl ho1 ?_
   (conv => whnf)
   (repeat' ((first | refine ord_ok ?_ ?_ | refine call_eq rfl ho2 ?_ | refine ify ?_ | refine ifn ?_ | refine i6 ?_ | refine ati ?_ | refine mst ?_ | refine rmd ?_ | refine ibo (fun _ => ?_) (fun _ => ?_) | exact oend) <;> conv => whnf))
   refine call_mksl 29 rfl rfl (but_mksl (setOf (l.flatMap (nearI G))) (setOf l) (by omega) (setOf_spec l).1 (by omega)) ?_; rintro ds rfl
   ((conv => whnf); repeat' ((first | refine odw ?_ | refine ify ?_ | refine ifn ?_ | refine i6 ?_ | refine ati ?_ | refine mst ?_ | refine rmd ?_ | refine ibo (fun _ => ?_) (fun _ => ?_)) <;> conv => whnf))
   exact rfl
end Go.Proofs.YtjejpdfldmempaaGreatDoor
namespace Go.Proofs.YtjejpdfldmempaaGreatDoor
open Go.Sx Go.RowKit Go.Reg Go.Gr
set_option maxRecDepth 100000
theorem tk1 {l : List Int} {i : Nat} {x : Int} (h : l[i]? = some x) : l.take (i + 1) = l.take i ++ [x] := by rw [List.take_add_one, h]; rfl
def dOne (v : Int) : Da := dIs [v]
end Go.Proofs.YtjejpdfldmempaaGreatDoor
end
