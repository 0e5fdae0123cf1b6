/- Merged: Qtb. -/
import Derived.Test.YtjejpdfldmempaaGreatDoorOen
import Derived.Test.YtjejpdfldmempaaGreatDoorlgax
section
namespace Go.Proofs.YtjejpdfldmempaaGreatDoor
open Go.Sx Go.RowKit Go.Reg Go.Gr
set_option maxRecDepth 100000
theorem labelV_ok {G : Gr} (hG : G.Ok) {x : Int} (hx : 0 ≤ x ∧ x < G.labels.length) : 0 ≤ labelV G x ∧ labelV G x ≤ 255 := by
 obtain ⟨m, rfl⟩ := Int.eq_ofNat_of_zero_le hx.1
 have hm : m < G.labels.length := by omega
 unfold labelV
 rw [if_pos hx, Int.toNat_natCast, List.getElem?_eq_getElem hm]
 exact hG.lab _ (List.getElem_mem hm)
theorem lErr_labels {G : Gr} (hG : G.Ok) {v : List Int} (h8 : v.length ≤ 8) (hv : ∀ x ∈ v, 0 ≤ x ∧ x < G.labels.length) : lErr (v.map (labelV G)) = none := by
 refine lErr_no (by rw [List.length_map]; omega) (fun k y hk hy => ?_)
 rw [List.getElem?_map] at hy
 obtain ⟨x, hx, rfl⟩ := Option.map_eq_some_iff.1 hy
 have := labelV_ok hG (hv x (List.mem_of_getElem? hx))
 unfold badLabel
 simp; omega
theorem link_range {G : Gr} {l : List Int} (h : linkedV G l = true) : ∀ x ∈ l, 0 ≤ x ∧ x < G.labels.length := by
 intro x hx
 obtain ⟨i, hi⟩ := List.mem_iff_getElem?.1 hx
 have := linkN_pre h hi
 unfold linkAt hasV at this
 simp only [Bool.and_eq_true, decide_eq_true_eq] at this
 exact this.1
theorem link_nodup {G : Gr} {l : List Int} (h : linkedV G l = true) : l.Nodup := by
 rw [List.nodup_iff_pairwise_ne, List.pairwise_iff_getElem]
 intro i j hi hj hij he
 have := linkN_pre h (List.getElem?_eq_getElem hj)
 unfold linkAt at this
 simp only [Bool.and_eq_true, Bool.not_eq_true', decide_eq_false_iff_not] at this
 exact this.2.1 (by rw [← he]; exact List.mem_take_iff_getElem.2 ⟨i, by omega, rfl⟩)
def vertP (G : Gr) (l : List Int) : Pt := ⟨l.map (labelV G), madeE G.edges l⟩
theorem qvertG_pure (G : Gr) (hG : G.Ok) (l : List Int) (hm : l.length ≤ 9000000000000000000) :
  Pure C1 84 [dG G, dIs l] (fun y => y = if 8 < l.length then .tuple [dP0, dF 6 0 listS] else if linkedV G l = false then .tuple [dP0, dF 2 0 listS] else .tuple [dPt (vertP G l), .nili]) := by
 refine qvert_pure G hG l (vertP G l) (fun h8 hl => ?_) hm
 have hlt : ∀ e ∈ G.edges, e.a < e.b := fun e he => (hG.edge e he).2.1
 have hsq : l.length * l.length ≤ 8 * 8 := Nat.mul_le_mul h8 h8
 have hcl := colsF_len (adjF G.edges l) l.length
 have := pmake_pure (l.map (labelV G)) (lErr_labels hG h8 (link_range hl)) (colsF (adjF G.edges l) l.length) (by omega) (fun e he => ?_) (by rw [colsF_turn]; exact colsF_nodup _ _)
 ·rw [made_cols hlt] at this; exact this
 ·obtain ⟨k, i, h1, h2, _, rfl⟩ := mem_colsF.1 he
  rw [List.length_map]
  refine ⟨⟨?_, ?_⟩, ?_⟩ <;> simp only <;> omega
theorem ends_mem {E : List Edg} {l : List Int} : ∀ e ∈ endsOf E l, e ∈ E := fun e he => by
 obtain ⟨m, _, h⟩ := mem_endsOf.1 he
 exact List.mem_of_getElem? h
theorem ends_nodup {E : List Edg} (hE : E.Nodup) {l : List Int} (hl : l.Nodup) : (endsOf E l).Nodup := by
 unfold endsOf
 refine List.Pairwise.filterMap _ ?_ hl
 intro x y hxy e he e2 he2 h
 subst h
 split at he
 ·rename_i h1
  split at he2
  ·rename_i h2
   obtain ⟨m, rfl⟩ := Int.eq_ofNat_of_zero_le h1.1
   obtain ⟨k, rfl⟩ := Int.eq_ofNat_of_zero_le h2.1
   simp only [Int.toNat_natCast] at he he2
   have hm := (List.getElem?_eq_some_iff.1 he).1
   have := (List.getElem?_inj hm hE).1 (he.trans he2.symm)
   exact hxy (by rw [this])
  ·cases he2
 ·cases he
def edgeP (G : Gr) (l : List Int) : Pt := ⟨(vertsOf (endsOf G.edges l)).map (labelV G), madeE (endsOf G.edges l) (vertsOf (endsOf G.edges l))⟩
def edgeQ (G : Gr) (l : List Int) : Da := if linkedV (lnGr G) l = false then .tuple [dP0, .nils, dF 2 0 listS] else if 8 < (vertsOf (endsOf G.edges l)).length then .tuple [dP0, .nils, dF 6 0 listS] else .tuple [dPt (edgeP G l), dIs (vertsOf (endsOf G.edges l)), .nili]
def pl_qed : List (Nat × Plan) := [(10, .leaf [0, 0, 0, 1, 2, 0, 0, 1, 2, 0, 6, 3, 0] [0, 1, 2, 5, 6, 3, 7, 4, 8, 9, 10, 11, 12] [0, 0, 0, 4, 14, 0, 0, 64, 254, 510, 1022, 2047, 4095])]
def G_qed : List FuncId := [125, 126, 127, 128, 130, 129]
theorem cok_qed : codeOk Tryz.prog G_qed pl_qed (Tryz.f83.body.getD .skip) = true := by kernel_rfl
theorem run_qed (vs : Array Value) (w : World) : (callFunc 83 vs).run C1.P w = .ok (.enter 83 vs) w := by kernel_rfl
set_option maxHeartbeats 4000000 in
theorem qedge_pure (G : Gr) (hG : G.Ok) (l : List Int) (hm : l.length ≤ 1000) : Pure C1 83 [dG G, dIs l] (fun y => y = edgeQ G l) := by
 have hdl : (l.map dI).length = l.length := List.length_map _
 have hlk := qlinked_pure G l
 have hvs := verts_pure G l (by omega)
 have hen := ends_pure G l (by omega)
 have hvl := vertsOf_len (endsOf G.edges l)
 have hel := endsOf_len G.edges l
 unfold edgeQ
 refine pure_of c1_ok (pl := pl_qed) (G := G_qed) Tryz.func83 rfl Tryz.ntmps83 run_qed cok_qed (by simp) ?_
 cases hl : linkedV (lnGr G) l with
 | false =>
   rw [hl] at hlk
   rw [if_pos rfl]
   (conv => whnf)
   (repeat' ((first | refine ord_ok ?_ ?_ | refine call_eq rfl hlk ?_ | refine call_eq rfl (fnew_pure 2 0 listS) ?_ | refine ify ?_ | refine ifn ?_ | refine i6 ?_ | refine ati ?_ | refine mst ?_ | refine rmd ?_ | refine ibo (fun _ => ?_) (fun _ => ?_) | exact oend) <;> conv => whnf))
   exact rfl
 | true =>
   rw [hl] at hlk
   rw [if_neg (by decide)]
   have hlt : ∀ e ∈ endsOf G.edges l, e.a < e.b := fun e he => (hG.edge e (ends_mem e he)).2.1
   have hEn := ends_nodup hG.sorted.nodup (l := l) (link_nodup hl)
   obtain ⟨hVn, hVm⟩ := vertsOf_spec (endsOf G.edges l)
   have hin : ∀ e ∈ endsOf G.edges l, e.a ∈ vertsOf (endsOf G.edges l) ∧ e.b ∈ vertsOf (endsOf G.edges l) := fun e he => ⟨(hVm _).2 ⟨e, he, .inl rfl⟩, (hVm _).2 ⟨e, he, .inr rfl⟩⟩
   have hVr : ∀ x ∈ vertsOf (endsOf G.edges l), 0 ≤ x ∧ x < G.labels.length := fun x hx => by
    obtain ⟨e, he, h⟩ := (hVm x).1 hx
    obtain ⟨g1, g2, g3⟩ := hG.edge e (ends_mem e he)
    rcases h with rfl | rfl <;> omega
   clear hVm
   unfold edgeP
   generalize hE : endsOf G.edges l = E at *
   generalize hV : vertsOf E = V at *
   have hdV : (V.map dI).length = V.length := List.length_map _
   have hdE : (E.map dE).length = E.length := List.length_map _
   by_cases h8 : 8 < V.length
   ·rw [if_pos h8]
    (conv => whnf)
    (repeat' ((first | refine ord_ok ?_ ?_ | refine call_eq rfl hlk ?_ | refine call_eq rfl hvs ?_ | refine call_eq rfl (fnew_pure 6 0 listS) ?_ | refine ify ?_ | refine ifn ?_ | refine i6 ?_ | refine ati ?_ | refine mst ?_ | refine rmd ?_ | refine ibo (fun _ => ?_) (fun _ => ?_) | exact oend) <;> conv => whnf))
    exact rfl
   ·rw [if_neg h8]
    (conv => whnf)
    (repeat' ((first | refine ord_ok ?_ ?_ | refine call_eq rfl hlk ?_ | refine call_eq rfl hvs ?_ | refine call_eq rfl hen ?_ | refine ify ?_ | refine ifn ?_ | refine i6 ?_ | refine ati ?_ | refine mst ?_ | refine rmd ?_ | refine ibo (fun _ => ?_) (fun _ => ?_) | exact oend) <;> conv => whnf))
    obtain ⟨hnd, hmade⟩ := made_ats hlt hEn V hVn hin
    have hql := qlabels_pure G V (by omega)
    have hmk := pmake_pure (V.map (labelV G)) (lErr_labels hG (by omega) hVr) (E.map (atE V)) (by rw [List.length_map]; omega) (fun e he => by
     obtain ⟨x, hx, rfl⟩ := List.mem_map.1 he
     obtain ⟨i, j, h1, h2, _, _, h5, h6⟩ := atE_in hVn (hlt x hx) (hin x hx).1 (hin x hx).2
     rw [h6, List.length_map]
     refine ⟨⟨?_, ?_⟩, ?_⟩ <;> simp only <;> omega) hnd
    rw [hmade] at hmk
    refine loop_lo (ι := Nat) (fun i => i ≤ E.length) (fun i => [(31, .d (.int .i64 i)), (30, .d (.int .i64 (E.map dE).length)), (29, .d (dEs E)), (8, .own 300), (7, .d (dIs V)), (4, .own 4), (0, .d (dG G))]) (fun i => [(4, .cells 31 [.d .nils, .d .nils]), (300, .slice 103 2 (((E.take i).map (atE V)).map dE))]) (fun i => E.length - i) 0 (fun _ => rfl) (Nat.zero_le _) (.own 8 300 103 2 rfl rfl (.refl _ _)) ⟨rfl, rfl, rfl, rfl, rfl, rfl, rfl, trivial⟩ ⟨rfl, rfl, trivial⟩ ?_
    intro i hi
    refine sxCode_sound c1_ok (G := G_qed) (pl := pl_qed) _ _ _ _ (by kernel_rfl) ?_
    by_cases hil : i < E.length
    ·have hx := List.getElem?_eq_getElem hil
     generalize E[i] = x at hx
     have hxd : (E.map dE)[i]? = some (.agg [.int .i64 x.a, .int .i64 x.b]) := by rw [List.getElem?_map, hx]; rfl
     have h1 := index_pure V x.a
     have h2 := index_pure V x.b
     (conv => whnf)
     (repeat' ((first | refine ord_ok ?_ ?_ | refine at_da hxd rfl ?_ | refine call_eqb tab rfl h1 rfl ?_ | refine call_eqb tab rfl h2 rfl ?_ | refine ify ?_ | refine ifn ?_ | refine i6 ?_ | refine ati ?_ | refine mst ?_ | refine rmd ?_ | refine ibo (fun _ => ?_) (fun _ => ?_) | exact oend) <;> conv => whnf))
     refine ⟨i + 1, _, _, by omega, .refl _ _, ⟨rfl, rfl, rfl, rfl, rfl, rfl, rfl, trivial⟩, ⟨rfl, slice_is ?_, trivial⟩, by omega⟩
     rw [List.take_add_one, hx]; simp [dE, atE]
    ·have e : E.take i = E := List.take_of_length_le (by omega)
     rw [e]
     (conv => whnf)
     (repeat' ((first | refine ord_ok ?_ ?_ | refine call_frz 300 rfl ?_ | refine call_eq rfl hql ?_ | refine call_eq rfl hmk ?_ | refine ify ?_ | refine ifn ?_ | refine i6 ?_ | refine ati ?_ | refine mst ?_ | refine rmd ?_ | refine ibo (fun _ => ?_) (fun _ => ?_) | exact oend) <;> conv => whnf))
     exact rfl
end Go.Proofs.YtjejpdfldmempaaGreatDoor
end
