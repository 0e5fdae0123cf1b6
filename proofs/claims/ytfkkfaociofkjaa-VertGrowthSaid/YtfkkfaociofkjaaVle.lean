/- vert: Next. · vert: Bare. -/
import Derived.Test.YtfkkfaociofkjaaVld
import Derived.Test.YtfkkfaociofkjaaLnp
namespace Go.Proofs.Ytfkkfaociofkjaa
open Go.Sx Go.RowKit Go.Reg Go.Gr

set_option maxRecDepth 100000
theorem but_mksl (a b : List Int) (ha : a.length ≤ 4294967296) (hr : b.Pairwise (· < ·)) (hl : b.length ≤ 4294967296) : MakeSl C1 55 [dIs a, dIs b] 3 1 (fun ds => ds = (a.filter fun x => !decide (x ∈ b)).map dI) := by
  refine mksl_of c1_ok (pl := pl_sbut) (G := G_sbut) Try.func55 rfl Try.ntmps55 run_sbut cok_sbut (by simp) ?_
  (conv => whnf)
  refine call_mkslb tab 29 rfl rfl (kept_mksl a _ [.ref (dIs b)] _ ha (fun x _ => but1_pure b hr hl x)) (fun ds h => by subst h; exact flats_ints _) ?_; rintro ds rfl
  ((conv => whnf); repeat' ((first | refine odw ?_ | refine ify ?_ | refine ifn ?_ | refine i6 ?_ | refine ati ?_ | refine mst ?_ | refine rmd ?_ | refine ibo (fun _ => ?_) (fun _ => ?_)) <;> conv => whnf))
  exact ⟨rfl, rfl, rfl⟩
def nearI (G : Gr) (v : Int) : List Int := if 0 ≤ v ∧ v < G.labels.length then nearOf G.edges v.toNat else []
theorem nearI_len {G : Gr} (hG : G.Ok) (v : Int) : (nearI G v).length ≤ 32768 := by
  unfold nearI
  split
  · have := deg_le G.edges v.toNat
    have := hG.esize
    unfold deg at *; omega
  · simp
def nextV (G : Gr) (l : List Int) : List Int := if l = [] then upto G.labels.length else (setOf (l.flatMap (nearI G))).filter fun x => !decide (x ∈ setOf l)
theorem nears_len {G : Gr} (hG : G.Ok) (l : List Int) : (l.flatMap (nearI G)).length ≤ l.length * 32768 := by
  induction l with
  | nil => simp
  | cons x l ih =>
    have := nearI_len hG x
    simp only [List.flatMap_cons, List.length_append, List.length_cons]; omega
theorem nears_step {G : Gr} {l : List Int} {i : Nat} {x : Int} (h : l[i]? = some x) : (l.take (i + 1)).flatMap (nearI G) = (l.take i).flatMap (nearI G) ++ nearI G x := by
  rw [List.take_add_one, h, Option.toList_some, List.flatMap_append]; simp
def pl_vnx : List (Nat × Plan) := []
def G_vnx : List FuncId := [46]
theorem cok_vnx : codeOk Try.prog G_vnx pl_vnx (Try.f33.body.getD .skip) = true := by kernel_rfl
theorem run_vnx (vs : Array Value) (w : World) : (callFunc 33 vs).run C1.P w = .ok (.enter 33 vs) w := by kernel_rfl
theorem next_mksl (G : Gr) (hG : G.Ok) (l : List Int) (hb : l.length ≤ 100000) : MakeSl C1 33 [dG G, dIs l] 3 1 (fun ds => ds = (nextV G l).map dI) := by
  have hll : (l.map dI).length = l.length := List.length_map _
  have hsz := hG.size
  refine mksl_of c1_ok (pl := pl_vnx) (G := G_vnx) Try.func33 rfl Try.ntmps33 run_vnx cok_vnx (by simp) ?_
  unfold nextV
  by_cases hl : l = []
  · rw [if_pos hl]
    subst hl
    (conv => whnf)
    (repeat' ((first | refine ord_ok (by (conv => whnf); (repeat' ((first | refine call_eq rfl (len_pure G) ?_ | refine ify ?_ | refine ifn ?_ | refine i6 ?_ | refine ati ?_ | refine mst ?_ | refine rmd ?_ | refine ibo (fun _ => ?_) (fun _ => ?_)) <;> conv => whnf)); (all_goals (repeat' (first | exact trivial | exact rfl | refine And.intro ?_ ?_)))) ?_ | refine call_eq rfl (len_pure G) ?_ | refine ify ?_ | refine ifn ?_ | refine i6 ?_ | refine ati ?_ | refine mst ?_ | refine rmd ?_ | refine ibo (fun _ => ?_) (fun _ => ?_)) <;> conv => whnf))
    refine loop_lo (ι := Nat) (fun v => v ≤ G.labels.length) (fun v => [(14, .d (.int .i64 v)), (13, .d (.int .i64 G.labels.length)), (5, .own 300)]) (fun v => [(300, .slice 3 1 ((upto v).map dI))]) (fun v => G.labels.length - v) 0 (fun _ => rfl) (Nat.zero_le _)
      (.own 5 300 3 1 rfl rfl (.refl _ _)) ⟨rfl, rfl, rfl, trivial⟩ ⟨rfl, trivial⟩ ?_
    intro v hv
    refine sxCode_sound c1_ok (G := G_vnx) (pl := pl_vnx) _ _ _ _ (by kernel_rfl) ?_
    by_cases hlt : v < G.labels.length
    · have hul := upto_len v
      have hfin : (upto v).map dI ++ [.int .i64 (v : Int)] = (upto (v + 1)).map dI := by rw [upto_succ, List.map_append]; rfl
      ((conv => whnf); repeat' ((first | refine odw ?_ | refine ify ?_ | refine ifn ?_ | refine i6 ?_ | refine ati ?_ | refine mst ?_ | refine rmd ?_ | refine ibo (fun _ => ?_) (fun _ => ?_)) <;> conv => whnf))
      exact ⟨v + 1, _, _, hlt, .refl _ _, ⟨rfl, rfl, rfl, trivial⟩, ⟨slice_is hfin, trivial⟩, by omega⟩
    · have : v = G.labels.length := by omega
      subst this
      ((conv => whnf); repeat' ((first | refine odw ?_ | refine ify ?_ | refine ifn ?_ | refine i6 ?_ | refine ati ?_ | refine mst ?_ | refine rmd ?_ | refine ibo (fun _ => ?_) (fun _ => ?_)) <;> conv => whnf))
      exact ⟨rfl, rfl, rfl⟩
  · rw [if_neg hl]
    have hl0 : ¬ ((l.map dI).length : Int) = 0 := by rw [hll]; have := List.length_pos_iff.2 hl; omega
    ((conv => whnf); repeat' ((first | refine odw ?_ | refine ify ?_ | refine ifn ?_ | refine i6 ?_ | refine ati ?_ | refine mst ?_ | refine rmd ?_ | refine ibo (fun _ => ?_) (fun _ => ?_)) <;> conv => whnf))
    refine loop_lo (ι := Nat) (fun i => i ≤ l.length) (fun i => [(25, .d (.int .i64 i)), (24, .d (.int .i64 (l.map dI).length)), (23, .d (dIs l)), (5, .own 300), (1, .d (dIs l)), (0, .d (dG G))]) (fun i => [(300, .slice 3 1 (((l.take i).flatMap (nearI G)).map dI))]) (fun i => l.length - i) 0 (fun _ => rfl) (Nat.zero_le _)
      (.own 5 300 3 1 rfl rfl (.refl _ _)) ⟨rfl, rfl, rfl, rfl, rfl, rfl, trivial⟩ ⟨rfl, trivial⟩ ?_
    intro i hi
    refine sxCode_sound c1_ok (G := G_vnx) (pl := pl_vnx) _ _ _ _ (by kernel_rfl) ?_
    have hnl := nears_len hG (l.take i)
    rw [List.length_take] at hnl
    by_cases hlt : i < l.length
    · have hx := List.getElem?_eq_getElem hlt
      generalize l[i] = x at hx
      have hxd : (l.map dI)[i]? = some (.int .i64 x) := by rw [List.getElem?_map, hx]; rfl
      have hst := nears_step (G := G) hx
      have hxl := nearI_len hG x
      have hnp := near_pure G hG x
      have hml : ((l.take i).flatMap (nearI G)).length + (nearI G x).length ≤ 4294967296 := by omega
      unfold nearY at hnp
      unfold nearI at hst hxl hml
      by_cases hr : 0 ≤ x ∧ x < G.labels.length
      · rw [if_pos hr] at hnp hst hxl hml
        have hfin : ((l.take i).flatMap (nearI G)).map dI ++ (nearOf G.edges x.toNat).map dI = ((l.take (i + 1)).flatMap (nearI G)).map dI := by
          rw [← List.map_append]; exact congrArg (List.map dI) hst.symm
        (conv => whnf)
        (repeat' ((first | refine ord_ok (by (conv => whnf); (repeat' ((first | refine at_da hxd rfl ?_ | refine call_eq rfl hnp ?_ | refine ify ?_ | refine ifn ?_ | refine i6 ?_ | refine ati ?_ | refine mst ?_ | refine rmd ?_ | refine ibo (fun _ => ?_) (fun _ => ?_)) <;> conv => whnf)); (all_goals (repeat' (first | exact trivial | exact rfl | refine And.intro ?_ ?_)))) ?_ | refine at_da hxd rfl ?_ | refine call_eq rfl hnp ?_ | refine ify ?_ | refine ifn ?_ | refine i6 ?_ | refine ati ?_ | refine mst ?_ | refine rmd ?_ | refine ibo (fun _ => ?_) (fun _ => ?_)) <;> conv => whnf))
        exact ⟨i + 1, _, _, hlt, .refl _ _, ⟨rfl, rfl, rfl, rfl, rfl, rfl, trivial⟩, ⟨slice_is hfin, trivial⟩, by omega⟩
      · rw [if_neg hr] at hnp hst hxl hml
        have hfin : ((l.take i).flatMap (nearI G)).map dI ++ [] = ((l.take (i + 1)).flatMap (nearI G)).map dI := by
          rw [List.append_nil] at hst ⊢; exact congrArg (List.map dI) hst.symm
        (conv => whnf)
        (repeat' ((first | refine ord_ok (by (conv => whnf); (repeat' ((first | refine at_da hxd rfl ?_ | refine call_eq rfl hnp ?_ | refine ify ?_ | refine ifn ?_ | refine i6 ?_ | refine ati ?_ | refine mst ?_ | refine rmd ?_ | refine ibo (fun _ => ?_) (fun _ => ?_)) <;> conv => whnf)); (all_goals (repeat' (first | exact trivial | exact rfl | refine And.intro ?_ ?_)))) ?_ | refine at_da hxd rfl ?_ | refine call_eq rfl hnp ?_ | refine ify ?_ | refine ifn ?_ | refine i6 ?_ | refine ati ?_ | refine mst ?_ | refine rmd ?_ | refine ibo (fun _ => ?_) (fun _ => ?_)) <;> conv => whnf))
        exact ⟨i + 1, _, _, hlt, .refl _ _, ⟨rfl, rfl, rfl, rfl, rfl, rfl, trivial⟩, ⟨slice_is hfin, trivial⟩, by omega⟩
    · have hii : l.take i = l := List.take_of_length_le (by omega)
      rw [hii]
      have hnl2 := nears_len hG l
      have ho1 := of_pure (l.flatMap (nearI G)) (by omega)
      have ho2 := of_pure l (by omega)
      have hs1 := setOf_len (l.flatMap (nearI G))
      have hs2 := setOf_len l
      ((conv => whnf); repeat' ((first | refine odw ?_ | refine ify ?_ | refine ifn ?_ | refine i6 ?_ | refine ati ?_ | refine mst ?_ | refine rmd ?_ | refine ibo (fun _ => ?_) (fun _ => ?_)) <;> conv => whnf))
      refine call_frz 300 rfl ?_
      refine call_eq rfl ho1 ?_
      (conv => whnf)
      (repeat' ((first | refine ord_ok (by (conv => whnf); (repeat' ((first | refine call_eq rfl ho2 ?_ | refine ify ?_ | refine ifn ?_ | refine i6 ?_ | refine ati ?_ | refine mst ?_ | refine rmd ?_ | refine ibo (fun _ => ?_) (fun _ => ?_)) <;> conv => whnf)); (all_goals (repeat' (first | exact trivial | exact rfl | refine And.intro ?_ ?_)))) ?_ | refine call_eq rfl ho2 ?_ | refine ify ?_ | refine ifn ?_ | refine i6 ?_ | refine ati ?_ | refine mst ?_ | refine rmd ?_ | refine ibo (fun _ => ?_) (fun _ => ?_)) <;> conv => whnf))
      refine call_mksl 29 rfl rfl (but_mksl (setOf (l.flatMap (nearI G))) (setOf l) (by omega) (setOf_spec l).1 (by omega)) ?_; rintro ds rfl
      ((conv => whnf); repeat' ((first | refine odw ?_ | refine ify ?_ | refine ifn ?_ | refine i6 ?_ | refine ati ?_ | refine mst ?_ | refine rmd ?_ | refine ibo (fun _ => ?_) (fun _ => ?_)) <;> conv => whnf))
      exact ⟨rfl, rfl, rfl⟩
theorem next_pure (G : Gr) (hG : G.Ok) (l : List Int) (hb : l.length ≤ 100000) : Pure C1 33 [dG G, dIs l] (fun y => y = dIs (nextV G l)) := by
  have hll : (l.map dI).length = l.length := List.length_map _
  have hsz := hG.size
  refine pure_of c1_ok (pl := pl_vnx) (G := G_vnx) Try.func33 rfl Try.ntmps33 run_vnx cok_vnx (by simp) ?_
  unfold nextV
  by_cases hl : l = []
  · rw [if_pos hl]
    subst hl
    (conv => whnf)
    (repeat' ((first | refine ord_ok (by (conv => whnf); (repeat' ((first | refine call_eq rfl (len_pure G) ?_ | refine ify ?_ | refine ifn ?_ | refine i6 ?_ | refine ati ?_ | refine mst ?_ | refine rmd ?_ | refine ibo (fun _ => ?_) (fun _ => ?_)) <;> conv => whnf)); (all_goals (repeat' (first | exact trivial | exact rfl | refine And.intro ?_ ?_)))) ?_ | refine call_eq rfl (len_pure G) ?_ | refine ify ?_ | refine ifn ?_ | refine i6 ?_ | refine ati ?_ | refine mst ?_ | refine rmd ?_ | refine ibo (fun _ => ?_) (fun _ => ?_)) <;> conv => whnf))
    refine loop_lo (ι := Nat) (fun v => v ≤ G.labels.length) (fun v => [(14, .d (.int .i64 v)), (13, .d (.int .i64 G.labels.length)), (5, .own 300)]) (fun v => [(300, .slice 3 1 ((upto v).map dI))]) (fun v => G.labels.length - v) 0 (fun _ => rfl) (Nat.zero_le _)
      (.own 5 300 3 1 rfl rfl (.refl _ _)) ⟨rfl, rfl, rfl, trivial⟩ ⟨rfl, trivial⟩ ?_
    intro v hv
    refine sxCode_sound c1_ok (G := G_vnx) (pl := pl_vnx) _ _ _ _ (by kernel_rfl) ?_
    by_cases hlt : v < G.labels.length
    · have hul := upto_len v
      have hfin : (upto v).map dI ++ [.int .i64 (v : Int)] = (upto (v + 1)).map dI := by rw [upto_succ, List.map_append]; rfl
      ((conv => whnf); repeat' ((first | refine odw ?_ | refine ify ?_ | refine ifn ?_ | refine i6 ?_ | refine ati ?_ | refine mst ?_ | refine rmd ?_ | refine ibo (fun _ => ?_) (fun _ => ?_)) <;> conv => whnf))
      exact ⟨v + 1, _, _, hlt, .refl _ _, ⟨rfl, rfl, rfl, trivial⟩, ⟨slice_is hfin, trivial⟩, by omega⟩
    · have : v = G.labels.length := by omega
      subst this
      ((conv => whnf); repeat' ((first | refine odw ?_ | refine ify ?_ | refine ifn ?_ | refine i6 ?_ | refine ati ?_ | refine mst ?_ | refine rmd ?_ | refine ibo (fun _ => ?_) (fun _ => ?_)) <;> conv => whnf))
      exact rfl
  · rw [if_neg hl]
    have hl0 : ¬ ((l.map dI).length : Int) = 0 := by rw [hll]; have := List.length_pos_iff.2 hl; omega
    ((conv => whnf); repeat' ((first | refine odw ?_ | refine ify ?_ | refine ifn ?_ | refine i6 ?_ | refine ati ?_ | refine mst ?_ | refine rmd ?_ | refine ibo (fun _ => ?_) (fun _ => ?_)) <;> conv => whnf))
    refine loop_lo (ι := Nat) (fun i => i ≤ l.length) (fun i => [(25, .d (.int .i64 i)), (24, .d (.int .i64 (l.map dI).length)), (23, .d (dIs l)), (5, .own 300), (1, .d (dIs l)), (0, .d (dG G))]) (fun i => [(300, .slice 3 1 (((l.take i).flatMap (nearI G)).map dI))]) (fun i => l.length - i) 0 (fun _ => rfl) (Nat.zero_le _)
      (.own 5 300 3 1 rfl rfl (.refl _ _)) ⟨rfl, rfl, rfl, rfl, rfl, rfl, trivial⟩ ⟨rfl, trivial⟩ ?_
    intro i hi
    refine sxCode_sound c1_ok (G := G_vnx) (pl := pl_vnx) _ _ _ _ (by kernel_rfl) ?_
    have hnl := nears_len hG (l.take i)
    rw [List.length_take] at hnl
    by_cases hlt : i < l.length
    · have hx := List.getElem?_eq_getElem hlt
      generalize l[i] = x at hx
      have hxd : (l.map dI)[i]? = some (.int .i64 x) := by rw [List.getElem?_map, hx]; rfl
      have hst := nears_step (G := G) hx
      have hxl := nearI_len hG x
      have hnp := near_pure G hG x
      have hml : ((l.take i).flatMap (nearI G)).length + (nearI G x).length ≤ 4294967296 := by omega
      unfold nearY at hnp
      unfold nearI at hst hxl hml
      by_cases hr : 0 ≤ x ∧ x < G.labels.length
      · rw [if_pos hr] at hnp hst hxl hml
        have hfin : ((l.take i).flatMap (nearI G)).map dI ++ (nearOf G.edges x.toNat).map dI = ((l.take (i + 1)).flatMap (nearI G)).map dI := by
          rw [← List.map_append]; exact congrArg (List.map dI) hst.symm
        (conv => whnf)
        (repeat' ((first | refine ord_ok (by (conv => whnf); (repeat' ((first | refine at_da hxd rfl ?_ | refine call_eq rfl hnp ?_ | refine ify ?_ | refine ifn ?_ | refine i6 ?_ | refine ati ?_ | refine mst ?_ | refine rmd ?_ | refine ibo (fun _ => ?_) (fun _ => ?_)) <;> conv => whnf)); (all_goals (repeat' (first | exact trivial | exact rfl | refine And.intro ?_ ?_)))) ?_ | refine at_da hxd rfl ?_ | refine call_eq rfl hnp ?_ | refine ify ?_ | refine ifn ?_ | refine i6 ?_ | refine ati ?_ | refine mst ?_ | refine rmd ?_ | refine ibo (fun _ => ?_) (fun _ => ?_)) <;> conv => whnf))
        exact ⟨i + 1, _, _, hlt, .refl _ _, ⟨rfl, rfl, rfl, rfl, rfl, rfl, trivial⟩, ⟨slice_is hfin, trivial⟩, by omega⟩
      · rw [if_neg hr] at hnp hst hxl hml
        have hfin : ((l.take i).flatMap (nearI G)).map dI ++ [] = ((l.take (i + 1)).flatMap (nearI G)).map dI := by
          rw [List.append_nil] at hst ⊢; exact congrArg (List.map dI) hst.symm
        (conv => whnf)
        (repeat' ((first | refine ord_ok (by (conv => whnf); (repeat' ((first | refine at_da hxd rfl ?_ | refine call_eq rfl hnp ?_ | refine ify ?_ | refine ifn ?_ | refine i6 ?_ | refine ati ?_ | refine mst ?_ | refine rmd ?_ | refine ibo (fun _ => ?_) (fun _ => ?_)) <;> conv => whnf)); (all_goals (repeat' (first | exact trivial | exact rfl | refine And.intro ?_ ?_)))) ?_ | refine at_da hxd rfl ?_ | refine call_eq rfl hnp ?_ | refine ify ?_ | refine ifn ?_ | refine i6 ?_ | refine ati ?_ | refine mst ?_ | refine rmd ?_ | refine ibo (fun _ => ?_) (fun _ => ?_)) <;> conv => whnf))
        exact ⟨i + 1, _, _, hlt, .refl _ _, ⟨rfl, rfl, rfl, rfl, rfl, rfl, trivial⟩, ⟨slice_is hfin, trivial⟩, by omega⟩
    · have hii : l.take i = l := List.take_of_length_le (by omega)
      rw [hii]
      have hnl2 := nears_len hG l
      have ho1 := of_pure (l.flatMap (nearI G)) (by omega)
      have ho2 := of_pure l (by omega)
      have hs1 := setOf_len (l.flatMap (nearI G))
      have hs2 := setOf_len l
      ((conv => whnf); repeat' ((first | refine odw ?_ | refine ify ?_ | refine ifn ?_ | refine i6 ?_ | refine ati ?_ | refine mst ?_ | refine rmd ?_ | refine ibo (fun _ => ?_) (fun _ => ?_)) <;> conv => whnf))
      refine call_frz 300 rfl ?_
      refine call_eq rfl ho1 ?_
      (conv => whnf)
      (repeat' ((first | refine ord_ok (by (conv => whnf); (repeat' ((first | refine call_eq rfl ho2 ?_ | refine ify ?_ | refine ifn ?_ | refine i6 ?_ | refine ati ?_ | refine mst ?_ | refine rmd ?_ | refine ibo (fun _ => ?_) (fun _ => ?_)) <;> conv => whnf)); (all_goals (repeat' (first | exact trivial | exact rfl | refine And.intro ?_ ?_)))) ?_ | refine call_eq rfl ho2 ?_ | refine ify ?_ | refine ifn ?_ | refine i6 ?_ | refine ati ?_ | refine mst ?_ | refine rmd ?_ | refine ibo (fun _ => ?_) (fun _ => ?_)) <;> conv => whnf))
      refine call_mksl 29 rfl rfl (but_mksl (setOf (l.flatMap (nearI G))) (setOf l) (by omega) (setOf_spec l).1 (by omega)) ?_; rintro ds rfl
      ((conv => whnf); repeat' ((first | refine odw ?_ | refine ify ?_ | refine ifn ?_ | refine i6 ?_ | refine ati ?_ | refine mst ?_ | refine rmd ?_ | refine ibo (fun _ => ?_) (fun _ => ?_)) <;> conv => whnf))
      exact rfl
end Go.Proofs.Ytfkkfaociofkjaa

namespace Go.Proofs.Ytfkkfaociofkjaa
open Go.Sx Go.RowKit Go.Reg Go.Gr

set_option maxRecDepth 100000
theorem tk1 {l : List Int} {i : Nat} {x : Int} (h : l[i]? = some x) : l.take (i + 1) = l.take i ++ [x] := by rw [List.take_add_one, h]; rfl
def dOne (v : Int) : Da := dIs [v]
def pl_vbr : List (Nat × Plan) := []
def G_vbr : List FuncId := [33]
theorem cok_vbr : codeOk Try.prog G_vbr pl_vbr (Try.f32.body.getD .skip) = true := by kernel_rfl
theorem run_vbr (vs : Array Value) (w : World) : (callFunc 32 vs).run C1.P w = .ok (.enter 32 vs) w := by kernel_rfl
theorem bare_pure (G : Gr) (hG : G.Ok) : Pure C1 32 [dG G] (fun y => y = .list 1 ((upto G.labels.length).map dOne)) := by
  have hsz := hG.size
  have hnx : Pure C1 33 [dG G, .nils] (fun y => y = dIs (upto G.labels.length)) := Sx.Pure.lax (.cons (.refl _) (.cons (.nils 1) .nil)) (by
    have := next_pure G hG [] (by simp)
    rwa [show nextV G [] = upto G.labels.length from if_pos rfl] at this)
  have hul := upto_len G.labels.length
  generalize hL : upto G.labels.length = L at hnx hul
  have hLl : (L.map dI).length = L.length := List.length_map _
  refine pure_of c1_ok (pl := pl_vbr) (G := G_vbr) Try.func32 rfl Try.ntmps32 run_vbr cok_vbr (by simp) ?_
  (conv => whnf)
  (repeat' ((first | refine ord_ok (by (conv => whnf); (repeat' ((first | refine call_eq rfl hnx ?_ | refine ify ?_ | refine ifn ?_ | refine i6 ?_ | refine ati ?_ | refine mst ?_ | refine rmd ?_ | refine ibo (fun _ => ?_) (fun _ => ?_)) <;> conv => whnf)); (all_goals (repeat' (first | exact trivial | exact rfl | refine And.intro ?_ ?_)))) ?_ | refine call_eq rfl hnx ?_ | refine ify ?_ | refine ifn ?_ | refine i6 ?_ | refine ati ?_ | refine mst ?_ | refine rmd ?_ | refine ibo (fun _ => ?_) (fun _ => ?_)) <;> conv => whnf))
  refine loop_lo (ι := Nat) (fun i => i ≤ L.length) (fun i => [(9, .d (.int .i64 i)), (8, .d (.int .i64 (L.map dI).length)), (7, .d (dIs L)), (3, .own 300)]) (fun i => [(300, .slice 22 1 ((L.take i).map dOne))]) (fun i => L.length - i) 0 (fun _ => rfl) (Nat.zero_le _)
    (.own 3 300 22 1 rfl rfl (.refl _ _)) ⟨rfl, rfl, rfl, rfl, trivial⟩ ⟨rfl, trivial⟩ ?_
  intro i hi
  refine sxCode_sound c1_ok (G := G_vbr) (pl := pl_vbr) _ _ _ _ (by kernel_rfl) ?_
  by_cases hlt : i < L.length
  · have hx := List.getElem?_eq_getElem hlt
    generalize L[i] = x at hx
    have hxd : (L.map dI)[i]? = some (.int .i64 x) := by rw [List.getElem?_map, hx]; rfl
    (conv => whnf)
    (repeat' ((first | refine ord_ok (by (conv => whnf); (repeat' ((first | refine at_da hxd rfl ?_ | refine ify ?_ | refine ifn ?_ | refine i6 ?_ | refine ati ?_ | refine mst ?_ | refine rmd ?_ | refine ibo (fun _ => ?_) (fun _ => ?_)) <;> conv => whnf)); (all_goals (repeat' (first | exact trivial | exact rfl | refine And.intro ?_ ?_)))) ?_ | refine at_da hxd rfl ?_ | refine ify ?_ | refine ifn ?_ | refine i6 ?_ | refine ati ?_ | refine mst ?_ | refine rmd ?_ | refine ibo (fun _ => ?_) (fun _ => ?_)) <;> conv => whnf))
    refine op_again c1_ok (G := []) (.frz 15 rfl (.refl _ _)) (.inr rfl) ?_
    have hfin : (L.take i).map dOne ++ [.list 1 [.int .i64 x]] = (L.take (i + 1)).map dOne := by rw [tk1 hx, List.map_append]; rfl
    ((conv => whnf); repeat' ((first | refine odw ?_ | refine ify ?_ | refine ifn ?_ | refine i6 ?_ | refine ati ?_ | refine mst ?_ | refine rmd ?_ | refine ibo (fun _ => ?_) (fun _ => ?_)) <;> conv => whnf))
    exact ⟨i + 1, _, _, hlt, .refl _ _, ⟨rfl, rfl, rfl, rfl, trivial⟩, ⟨slice_is hfin, trivial⟩, by omega⟩
  · have hii : L.take i = L := List.take_of_length_le (by omega)
    rw [hii]
    ((conv => whnf); repeat' ((first | refine odw ?_ | refine ify ?_ | refine ifn ?_ | refine i6 ?_ | refine ati ?_ | refine mst ?_ | refine rmd ?_ | refine ibo (fun _ => ?_) (fun _ => ?_)) <;> conv => whnf))
    exact rfl
end Go.Proofs.Ytfkkfaociofkjaa
