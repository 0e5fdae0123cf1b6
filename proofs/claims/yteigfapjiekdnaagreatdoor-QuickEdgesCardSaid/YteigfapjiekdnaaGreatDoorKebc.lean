/- Merged: Qta Qtb Seb. -/
import Derived.Test.YteigfapjiekdnaaGreatDoorKeaz
import Derived.Test.YteigfapjiekdnaaGreatDoorKebb
import Derived.Test.YteigfapjiekdnaaGreatDoorKeat
section
/- quick: linked; law08.Same; ref12.Alone; quick.Vert. -/
namespace Go.Proofs.YteigfapjiekdnaaGreatDoor
open Go.Sx Go.RowKit Go.Reg Go.Gr

set_option maxRecDepth 100000
theorem touch_bes {G : Gr} {u m : Nat} (hu : u < G.edges.length) (hm : m < G.edges.length) (h : u ≠ m) : touchV G.edges u m = besP (lnGr G).edges m u := by
  rw [touchV_nat]
  unfold besP lnGr
  rw [Bool.eq_iff_iff, decide_eq_true_eq]
  exact (turn_want h hu hm).symm
theorem any_touch {G : Gr} {t : List Int} {m : Nat} (hm : m < G.edges.length) (hn : ¬ (m : Int) ∈ t) (ht : ∀ u ∈ t, 0 ≤ u ∧ u < G.edges.length) : t.any (fun u => touchV G.edges u m) = t.any (besP (lnGr G).edges m) := by
  rw [Bool.eq_iff_iff, List.any_eq_true, List.any_eq_true]
  have key : ∀ u ∈ t, touchV G.edges u m = besP (lnGr G).edges m u := fun u hu => by
    obtain ⟨h1, h2⟩ := ht u hu
    obtain ⟨k, rfl⟩ := Int.eq_ofNat_of_zero_le h1
    exact touch_bes (by omega) hm (fun e => hn (by subst e; exact hu))
  constructor
  · rintro ⟨u, hu, h⟩; exact ⟨u, hu, by rw [← key u hu]; exact h⟩
  · rintro ⟨u, hu, h⟩; exact ⟨u, hu, by rw [key u hu]; exact h⟩
def pl_qscf : List (Nat × Plan) := []
def G_qscf : List FuncId := [89]
theorem cok_qscf : codeOk Tryz.prog G_qscf pl_qscf (Tryz.f86.body.getD .skip) = true := by kernel_rfl
theorem run_qscf (vs : Array Value) (w : World) : (callFunc 86 vs).run C1.P w = .ok (.enter 86 vs) w := by kernel_rfl
theorem qcontainsF_pure (l : List Int) (g : FuncId) (cs : List Da) (p : Int → Bool) (hp : ∀ x ∈ l, Pure C1 g (.int .i64 x :: cs) (fun y => y = .bool (p x))) : Pure C1 86 [dIs l, .func (.func g) [] cs] (fun y => y = .bool (l.any p)) := by
  refine pure_of c1_ok (pl := pl_qscf) (G := G_qscf) Tryz.func86 rfl Tryz.ntmps86 run_qscf cok_qscf (by simp) ?_
  (conv => whnf)
  (repeat' ((first | refine ord_ok (by (conv => whnf); (repeat' ((first | refine call_eq rfl (indexF_pure l g cs p hp) ?_ | refine ify ?_ | refine ifn ?_ | refine i6 ?_ | refine ati ?_ | refine mst ?_ | refine rmd ?_ | refine ibo (fun _ => ?_) (fun _ => ?_)) <;> conv => whnf)); (all_goals (repeat' (first | exact trivial | exact rfl | refine And.intro ?_ ?_)))) ?_ | refine call_eq rfl (indexF_pure l g cs p hp) ?_ | refine ify ?_ | refine ifn ?_ | refine i6 ?_ | refine ati ?_ | refine mst ?_ | refine rmd ?_ | refine ibo (fun _ => ?_) (fun _ => ?_)) <;> conv => whnf))
  show Da.plain _ = _
  have := idxF_nn l p
  cases h : l.any p <;> simp [Da.plain, this, h]
def pl_qlk1 : List (Nat × Plan) := []
def G_qlk1 : List FuncId := [143]
theorem cok_qlk1 : codeOk Tryz.prog G_qlk1 pl_qlk1 (Tryz.f142.body.getD .skip) = true := by kernel_rfl
theorem run_qlk1 (vs : Array Value) (w : World) : (callFunc 142 vs).run C1.P w = .ok (.enter 142 vs) w := by kernel_rfl
theorem qlk1_pure (G : Gr) (id u : Int) : Pure C1 142 [.int .i64 u, .ref (dG G), .ref (.int .i64 id)] (fun y => y = .bool (touchV G.edges u id)) := by
  refine pure_of c1_ok (pl := pl_qlk1) (G := G_qlk1) Tryz.func142 rfl Tryz.ntmps142 run_qlk1 cok_qlk1 (by simp) ?_
  (conv => whnf)
  (repeat' ((first | refine ord_ok (by (conv => whnf); (repeat' ((first | refine call_eq rfl (touch_pure G u id) ?_ | refine ify ?_ | refine ifn ?_ | refine i6 ?_ | refine ati ?_ | refine mst ?_ | refine rmd ?_ | refine ibo (fun _ => ?_) (fun _ => ?_)) <;> conv => whnf)); (all_goals (repeat' (first | exact trivial | exact rfl | refine And.intro ?_ ?_)))) ?_ | refine call_eq rfl (touch_pure G u id) ?_ | refine ify ?_ | refine ifn ?_ | refine i6 ?_ | refine ati ?_ | refine mst ?_ | refine rmd ?_ | refine ibo (fun _ => ?_) (fun _ => ?_)) <;> conv => whnf))
  exact rfl
def pl_qlk : List (Nat × Plan) := [(5, .leaf [0, 0, 0, 0, 0, 0, 1, 2, 0] [0, 1, 2, 3, 4, 5, 6, 7, 8] [0, 1, 3, 7, 7, 31, 7, 127, 255])]
def G_qlk : List FuncId := [141, 136, 86]
theorem cok_qlk : codeOk Tryz.prog G_qlk pl_qlk (Tryz.f100.body.getD .skip) = true := by kernel_rfl
theorem run_qlk (vs : Array Value) (w : World) : (callFunc 100 vs).run C1.P w = .ok (.enter 100 vs) w := by kernel_rfl
set_option maxHeartbeats 4000000 in
theorem qlinked_pure (G : Gr) (l : List Int) : Pure C1 100 [dG G, dIs l] (fun y => y = .bool (linkedV (lnGr G) l)) := by
  refine Pure.assume (fun O w us hr => by obtain ⟨v, vs, rfl, h1, h2⟩ := reps_inv hr; obtain ⟨v2, vs2, rfl, h3, _⟩ := reps_inv h2; exact ints_len h3) fun hm => ?_
  have hl : (l.map dI).length = l.length := List.length_map _
  refine pure_of c1_ok (pl := pl_qlk) (G := G_qlk) Tryz.func100 rfl Tryz.ntmps100 run_qlk cok_qlk (by simp) ?_
  ((conv => whnf); repeat' ((first | refine odw ?_ | refine ify ?_ | refine ifn ?_ | refine i6 ?_ | refine ati ?_ | refine mst ?_ | refine rmd ?_ | refine ibo (fun _ => ?_) (fun _ => ?_)) <;> conv => whnf))
  refine loop_lo (ι := Nat) (fun i => i ≤ l.length ∧ ∀ (j : Nat) (v : Int), j < i → l[j]? = some v → linkAt (lnGr G) l j v = true) (fun i => [(11, .d (.int .i64 i)), (10, .d (.int .i64 (l.map dI).length)), (9, .d (dIs l)), (2, .own 2), (1, .d (dIs l))]) (fun _ => [(2, .cells 25 [.d (dG G)])]) (fun i => l.length - i) 0 (fun _ => rfl) ⟨Nat.zero_le _, by intro j v h; omega⟩ (.refl _ _) ⟨rfl, rfl, rfl, rfl, rfl, trivial⟩ ⟨rfl, trivial⟩ ?_
  rintro i ⟨hi, hne⟩
  refine sxCode_sound c1_ok (G := G_qlk) (pl := pl_qlk) _ _ _ _ (by kernel_rfl) ?_
  by_cases hlt : i < l.length
  · have hx := List.getElem?_eq_getElem hlt
    generalize l[i] = y at hx
    have hxd : (l.map dI)[i]? = some (.int .i64 y) := by rw [List.getElem?_map, hx]; rfl
    have h1 := edge_pure G y
    have h2 := contains_pure (l.take i) y
    rw [dIs_take] at h2
    have hi2 : i ≤ (l.map dI).length := by omega
    by_cases hv : 0 ≤ y ∧ y < G.edges.length
    · obtain ⟨m, rfl⟩ := Int.eq_ofNat_of_zero_le hv.1
      have hml : m < G.edges.length := by omega
      have he := List.getElem?_eq_getElem hml
      generalize G.edges[m] = x at he
      have ey : edgeY G.edges m = .tuple [dE x, .bool true] := by unfold edgeY; rw [if_pos hv, Int.toNat_natCast, he]; rfl
      rw [ey] at h1
      have hhv : hasV (lnGr G) m = true := by rw [ln_has, decide_eq_true hv]
      by_cases hc : (m : Int) ∈ l.take i
      · rw [decide_eq_true hc] at h2
        rw [linkedV_no hx (linkAt_bad (.inr hc))]
        (conv => whnf)
        (repeat' ((first | refine ord_ok (by (conv => whnf); (repeat' ((first | refine at_da hxd rfl ?_ | refine call_eqb tab rfl h1 rfl ?_ | refine hi_is rfl hi2 ?_ | refine call_eqb tab rfl h2 rfl ?_ | refine ify ?_ | refine ifn ?_ | refine i6 ?_ | refine ati ?_ | refine mst ?_ | refine rmd ?_ | refine ibo (fun _ => ?_) (fun _ => ?_)) <;> conv => whnf)); (all_goals (repeat' (first | exact trivial | exact rfl | refine And.intro ?_ ?_)))) ?_ | refine at_da hxd rfl ?_ | refine call_eqb tab rfl h1 rfl ?_ | refine hi_is rfl hi2 ?_ | refine call_eqb tab rfl h2 rfl ?_ | refine ify ?_ | refine ifn ?_ | refine i6 ?_ | refine ati ?_ | refine mst ?_ | refine rmd ?_ | refine ibo (fun _ => ?_) (fun _ => ?_)) <;> conv => whnf))
        exact rfl
      · rw [decide_eq_false hc] at h2
        by_cases h0 : i = 0
        · have hyes : linkAt (lnGr G) l i m = true := by simp [linkAt, hhv, h0]
          (conv => whnf)
          (repeat' ((first | refine ord_ok (by (conv => whnf); (repeat' ((first | refine at_da hxd rfl ?_ | refine call_eqb tab rfl h1 rfl ?_ | refine hi_is rfl hi2 ?_ | refine call_eqb tab rfl h2 rfl ?_ | refine ify ?_ | refine ifn ?_ | refine i6 ?_ | refine ati ?_ | refine mst ?_ | refine rmd ?_ | refine ibo (fun _ => ?_) (fun _ => ?_)) <;> conv => whnf)); (all_goals (repeat' (first | exact trivial | exact rfl | refine And.intro ?_ ?_)))) ?_ | refine at_da hxd rfl ?_ | refine call_eqb tab rfl h1 rfl ?_ | refine hi_is rfl hi2 ?_ | refine call_eqb tab rfl h2 rfl ?_ | refine ify ?_ | refine ifn ?_ | refine i6 ?_ | refine ati ?_ | refine mst ?_ | refine rmd ?_ | refine ibo (fun _ => ?_) (fun _ => ?_)) <;> conv => whnf))
          refine ⟨i + 1, _, _, ⟨hlt, ?_⟩, .refl _ _, ⟨rfl, rfl, rfl, rfl, rfl, trivial⟩, ⟨rfl, trivial⟩, by omega⟩
          intro j v hj hjv
          by_cases hji : j = i
          · subst hji; rw [hx] at hjv; cases hjv; exact hyes
          · exact hne j v (by omega) hjv
        · have hpre : ∀ u ∈ l.take i, 0 ≤ u ∧ u < G.edges.length := fun u hu => by
            obtain ⟨j, hj, hju⟩ := List.mem_take_iff_getElem.1 hu
            have hj2 : j < l.length := by omega
            have h3 := hne j u (by omega) (by rw [List.getElem?_eq_getElem hj2, hju])
            by_cases hur : 0 ≤ u ∧ u < G.edges.length
            · exact hur
            · rw [linkAt_bad (.inl hur)] at h3; cases h3
          have h3 := qcontainsF_pure (l.take i) 142 [.ref (dG G), .ref (.int .i64 m)] (fun u => touchV G.edges u m) (fun u _ => qlk1_pure G m u)
          rw [dIs_take, any_touch hml hc hpre] at h3
          have hla : linkAt (lnGr G) l i m = (l.take i).any (besP (lnGr G).edges m) := by unfold linkAt; rw [hhv, decide_eq_false hc, decide_eq_false h0]; simp
          cases hb : (l.take i).any (besP (lnGr G).edges m) with
          | true =>
            have hyes := hla.trans hb
            rw [hb] at h3
            (conv => whnf)
            (repeat' ((first | refine ord_ok (by (conv => whnf); (repeat' ((first | refine at_da hxd rfl ?_ | refine call_eqb tab rfl h1 rfl ?_ | refine hi_is rfl hi2 ?_ | refine call_eqb tab rfl h2 rfl ?_ | refine call_eqb tab rfl h3 rfl ?_ | refine ify ?_ | refine ifn ?_ | refine i6 ?_ | refine ati ?_ | refine mst ?_ | refine rmd ?_ | refine ibo (fun _ => ?_) (fun _ => ?_)) <;> conv => whnf)); (all_goals (repeat' (first | exact trivial | exact rfl | refine And.intro ?_ ?_)))) ?_ | refine at_da hxd rfl ?_ | refine call_eqb tab rfl h1 rfl ?_ | refine hi_is rfl hi2 ?_ | refine call_eqb tab rfl h2 rfl ?_ | refine call_eqb tab rfl h3 rfl ?_ | refine ify ?_ | refine ifn ?_ | refine i6 ?_ | refine ati ?_ | refine mst ?_ | refine rmd ?_ | refine ibo (fun _ => ?_) (fun _ => ?_)) <;> conv => whnf))
            refine ⟨i + 1, _, _, ⟨hlt, ?_⟩, .refl _ _, ⟨rfl, rfl, rfl, rfl, rfl, trivial⟩, ⟨rfl, trivial⟩, by omega⟩
            intro j v hj hjv
            by_cases hji : j = i
            · subst hji; rw [hx] at hjv; cases hjv; exact hyes
            · exact hne j v (by omega) hjv
          | false =>
            rw [hb] at h3
            rw [linkedV_no hx (hla.trans hb)]
            (conv => whnf)
            (repeat' ((first | refine ord_ok (by (conv => whnf); (repeat' ((first | refine at_da hxd rfl ?_ | refine call_eqb tab rfl h1 rfl ?_ | refine hi_is rfl hi2 ?_ | refine call_eqb tab rfl h2 rfl ?_ | refine call_eqb tab rfl h3 rfl ?_ | refine ify ?_ | refine ifn ?_ | refine i6 ?_ | refine ati ?_ | refine mst ?_ | refine rmd ?_ | refine ibo (fun _ => ?_) (fun _ => ?_)) <;> conv => whnf)); (all_goals (repeat' (first | exact trivial | exact rfl | refine And.intro ?_ ?_)))) ?_ | refine at_da hxd rfl ?_ | refine call_eqb tab rfl h1 rfl ?_ | refine hi_is rfl hi2 ?_ | refine call_eqb tab rfl h2 rfl ?_ | refine call_eqb tab rfl h3 rfl ?_ | refine ify ?_ | refine ifn ?_ | refine i6 ?_ | refine ati ?_ | refine mst ?_ | refine rmd ?_ | refine ibo (fun _ => ?_) (fun _ => ?_)) <;> conv => whnf))
            exact rfl
    · have ey : edgeY G.edges y = .tuple [dE ⟨0, 0⟩, .bool false] := by unfold edgeY; rw [if_neg hv]
      rw [ey] at h1
      rw [linkedV_no hx (linkAt_bad (.inl hv))]
      (conv => whnf)
      (repeat' ((first | refine ord_ok (by (conv => whnf); (repeat' ((first | refine at_da hxd rfl ?_ | refine call_eqb tab rfl h1 rfl ?_ | refine ify ?_ | refine ifn ?_ | refine i6 ?_ | refine ati ?_ | refine mst ?_ | refine rmd ?_ | refine ibo (fun _ => ?_) (fun _ => ?_)) <;> conv => whnf)); (all_goals (repeat' (first | exact trivial | exact rfl | refine And.intro ?_ ?_)))) ?_ | refine at_da hxd rfl ?_ | refine call_eqb tab rfl h1 rfl ?_ | refine ify ?_ | refine ifn ?_ | refine i6 ?_ | refine ati ?_ | refine mst ?_ | refine rmd ?_ | refine ibo (fun _ => ?_) (fun _ => ?_)) <;> conv => whnf))
      exact rfl
  · have hie : i = l.length := by omega
    subst hie
    rw [linkedV_yes fun j v hj => hne j v (List.getElem?_eq_some_iff.1 hj).1 hj]
    ((conv => whnf); repeat' ((first | refine odw ?_ | refine ify ?_ | refine ifn ?_ | refine i6 ?_ | refine ati ?_ | refine mst ?_ | refine rmd ?_ | refine ibo (fun _ => ?_) (fun _ => ?_)) <;> conv => whnf))
    exact rfl
end Go.Proofs.YteigfapjiekdnaaGreatDoor
end

section
/- quick: Vert, Edge of any list. -/
namespace Go.Proofs.YteigfapjiekdnaaGreatDoor
open Go.Sx Go.RowKit Go.Reg Go.Gr

set_option maxRecDepth 100000
theorem labelV_ok {G : Gr} (hG : G.Ok) {x : Int} (hx : 0 ≤ x ∧ x < G.labels.length) : 0 ≤ labelV G x ∧ labelV G x ≤ 255 := by
  obtain ⟨m, rfl⟩ := Int.eq_ofNat_of_zero_le hx.1
  have hm : m < G.labels.length := by omega
  unfold labelV
  rw [if_pos hx, Int.toNat_natCast, List.getElem?_eq_getElem hm]
  exact hG.lab _ (List.getElem_mem hm)
theorem lErr_labels {G : Gr} (hG : G.Ok) {v : List Int} (h8 : v.length ≤ 8) (hv : ∀ x ∈ v, 0 ≤ x ∧ x < G.labels.length) : lErr (v.map (labelV G)) = none := by
  refine lErr_no (by rw [List.length_map]; omega) (fun k y hk hy => ?_)
  rw [List.getElem?_map] at hy
  obtain ⟨x, hx, rfl⟩ := Option.map_eq_some_iff.1 hy
  have := labelV_ok hG (hv x (List.mem_of_getElem? hx))
  unfold badLabel
  simp; omega
theorem link_nodup {G : Gr} {l : List Int} (h : linkedV G l = true) : l.Nodup := by
  rw [List.nodup_iff_pairwise_ne, List.pairwise_iff_getElem]
  intro i j hi hj hij he
  have := linkN_pre h (List.getElem?_eq_getElem hj)
  unfold linkAt at this
  simp only [Bool.and_eq_true, Bool.not_eq_true', decide_eq_false_iff_not] at this
  exact this.2.1 (by rw [← he]; exact List.mem_take_iff_getElem.2 ⟨i, by omega, rfl⟩)
theorem ends_mem {E : List Edg} {l : List Int} : ∀ e ∈ endsOf E l, e ∈ E := fun e he => by
  obtain ⟨m, _, h⟩ := mem_endsOf.1 he
  exact List.mem_of_getElem? h
theorem ends_nodup {E : List Edg} (hE : E.Nodup) {l : List Int} (hl : l.Nodup) : (endsOf E l).Nodup := by
  unfold endsOf
  refine List.Pairwise.filterMap _ ?_ hl
  intro x y hxy e he e2 he2 h
  subst h
  split at he
  · rename_i h1
    split at he2
    · rename_i h2
      obtain ⟨m, rfl⟩ := Int.eq_ofNat_of_zero_le h1.1
      obtain ⟨k, rfl⟩ := Int.eq_ofNat_of_zero_le h2.1
      simp only [Int.toNat_natCast] at he he2
      have hm := (List.getElem?_eq_some_iff.1 he).1
      have := (List.getElem?_inj hm hE).1 (he.trans he2.symm)
      exact hxy (by rw [this])
    · cases he2
  · cases he
def edgeP (G : Gr) (l : List Int) : Pt := ⟨(vertsOf (endsOf G.edges l)).map (labelV G), madeE (endsOf G.edges l) (vertsOf (endsOf G.edges l))⟩
def edgeQ (G : Gr) (l : List Int) : Da := if linkedV (lnGr G) l = false then .tuple [dP0, .nils, dF 2 0 listS] else if 8 < (vertsOf (endsOf G.edges l)).length then .tuple [dP0, .nils, dF 6 0 listS] else .tuple [dPt (edgeP G l), dIs (vertsOf (endsOf G.edges l)), .nili]
def pl_qed : List (Nat × Plan) := [(10, .leaf [0, 0, 0, 1, 2, 0, 0, 1, 2, 0, 6, 3, 0] [0, 1, 2, 5, 6, 3, 7, 4, 8, 9, 10, 11, 12] [0, 0, 0, 4, 14, 0, 0, 64, 254, 510, 1022, 2047, 4095])]
def G_qed : List FuncId := [100, 101, 102, 103, 97, 96]
theorem cok_qed : codeOk Tryz.prog G_qed pl_qed (Tryz.f46.body.getD .skip) = true := by kernel_rfl
theorem run_qed (vs : Array Value) (w : World) : (callFunc 46 vs).run C1.P w = .ok (.enter 46 vs) w := by kernel_rfl
set_option maxHeartbeats 4000000 in
theorem qedge_pure (G : Gr) (hG : G.Ok) (l : List Int) (hm : l.length ≤ 1000) : Pure C1 46 [dG G, dIs l] (fun y => y = edgeQ G l) := by
  have hdl : (l.map dI).length = l.length := List.length_map _
  have hlk := qlinked_pure G l
  have hvs := verts_pure G l (by omega)
  have hen := ends_pure G l (by omega)
  have hvl := vertsOf_len (endsOf G.edges l)
  have hel := endsOf_len G.edges l
  unfold edgeQ
  refine pure_of c1_ok (pl := pl_qed) (G := G_qed) Tryz.func46 rfl Tryz.ntmps46 run_qed cok_qed (by simp) ?_
  cases hl : linkedV (lnGr G) l with
  | false =>
    rw [hl] at hlk
    rw [if_pos rfl]
    (conv => whnf)
    (repeat' ((first | refine ord_ok (by (conv => whnf); (repeat' ((first | refine call_eq rfl hlk ?_ | refine call_eq rfl (fnew_pure 2 0 listS) ?_ | refine ify ?_ | refine ifn ?_ | refine i6 ?_ | refine ati ?_ | refine mst ?_ | refine rmd ?_ | refine ibo (fun _ => ?_) (fun _ => ?_)) <;> conv => whnf)); (all_goals (repeat' (first | exact trivial | exact rfl | refine And.intro ?_ ?_)))) ?_ | refine call_eq rfl hlk ?_ | refine call_eq rfl (fnew_pure 2 0 listS) ?_ | refine ify ?_ | refine ifn ?_ | refine i6 ?_ | refine ati ?_ | refine mst ?_ | refine rmd ?_ | refine ibo (fun _ => ?_) (fun _ => ?_)) <;> conv => whnf))
    exact rfl
  | true =>
    rw [hl] at hlk
    rw [if_neg (by decide)]
    have hlt : ∀ e ∈ endsOf G.edges l, e.a < e.b := fun e he => (hG.edge e (ends_mem e he)).2.1
    have hEn := ends_nodup hG.sorted.nodup (l := l) (link_nodup hl)
    obtain ⟨hVn, hVm⟩ := vertsOf_spec (endsOf G.edges l)
    have hin : ∀ e ∈ endsOf G.edges l, e.a ∈ vertsOf (endsOf G.edges l) ∧ e.b ∈ vertsOf (endsOf G.edges l) := fun e he => ⟨(hVm _).2 ⟨e, he, .inl rfl⟩, (hVm _).2 ⟨e, he, .inr rfl⟩⟩
    have hVr : ∀ x ∈ vertsOf (endsOf G.edges l), 0 ≤ x ∧ x < G.labels.length := fun x hx => by
      obtain ⟨e, he, h⟩ := (hVm x).1 hx
      obtain ⟨g1, g2, g3⟩ := hG.edge e (ends_mem e he)
      rcases h with rfl | rfl <;> omega
    clear hVm
    unfold edgeP
    generalize hE : endsOf G.edges l = E at *
    generalize hV : vertsOf E = V at *
    have hdV : (V.map dI).length = V.length := List.length_map _
    have hdE : (E.map dE).length = E.length := List.length_map _
    by_cases h8 : 8 < V.length
    · rw [if_pos h8]
      (conv => whnf)
      (repeat' ((first | refine ord_ok (by (conv => whnf); (repeat' ((first | refine call_eq rfl hlk ?_ | refine call_eq rfl hvs ?_ | refine call_eq rfl (fnew_pure 6 0 listS) ?_ | refine ify ?_ | refine ifn ?_ | refine i6 ?_ | refine ati ?_ | refine mst ?_ | refine rmd ?_ | refine ibo (fun _ => ?_) (fun _ => ?_)) <;> conv => whnf)); (all_goals (repeat' (first | exact trivial | exact rfl | refine And.intro ?_ ?_)))) ?_ | refine call_eq rfl hlk ?_ | refine call_eq rfl hvs ?_ | refine call_eq rfl (fnew_pure 6 0 listS) ?_ | refine ify ?_ | refine ifn ?_ | refine i6 ?_ | refine ati ?_ | refine mst ?_ | refine rmd ?_ | refine ibo (fun _ => ?_) (fun _ => ?_)) <;> conv => whnf))
      exact rfl
    · rw [if_neg h8]
      (conv => whnf)
      (repeat' ((first | refine ord_ok (by (conv => whnf); (repeat' ((first | refine call_eq rfl hlk ?_ | refine call_eq rfl hvs ?_ | refine call_eq rfl hen ?_ | refine ify ?_ | refine ifn ?_ | refine i6 ?_ | refine ati ?_ | refine mst ?_ | refine rmd ?_ | refine ibo (fun _ => ?_) (fun _ => ?_)) <;> conv => whnf)); (all_goals (repeat' (first | exact trivial | exact rfl | refine And.intro ?_ ?_)))) ?_ | refine call_eq rfl hlk ?_ | refine call_eq rfl hvs ?_ | refine call_eq rfl hen ?_ | refine ify ?_ | refine ifn ?_ | refine i6 ?_ | refine ati ?_ | refine mst ?_ | refine rmd ?_ | refine ibo (fun _ => ?_) (fun _ => ?_)) <;> conv => whnf))
      obtain ⟨hnd, hmade⟩ := made_ats hlt hEn V hVn hin
      have hql := qlabels_pure G V (by omega)
      have hmk := pmake_pure (V.map (labelV G)) (lErr_labels hG (by omega) hVr) (E.map (atE V)) (by rw [List.length_map]; omega) (fun e he => by
        obtain ⟨x, hx, rfl⟩ := List.mem_map.1 he
        obtain ⟨i, j, h1, h2, _, _, h5, h6⟩ := atE_in hVn (hlt x hx) (hin x hx).1 (hin x hx).2
        rw [h6, List.length_map]
        refine ⟨⟨?_, ?_⟩, ?_⟩ <;> simp only <;> omega) hnd
      rw [hmade] at hmk
      refine loop_lo (ι := Nat) (fun i => i ≤ E.length) (fun i => [(31, .d (.int .i64 i)), (30, .d (.int .i64 (E.map dE).length)), (29, .d (dEs E)), (8, .own 300), (7, .d (dIs V)), (4, .own 4), (0, .d (dG G))]) (fun i => [(4, .cells 38 [.d .nils, .d .nils]), (300, .slice 40 2 (((E.take i).map (atE V)).map dE))]) (fun i => E.length - i) 0 (fun _ => rfl) (Nat.zero_le _) (.own 8 300 40 2 rfl rfl (.refl _ _)) ⟨rfl, rfl, rfl, rfl, rfl, rfl, rfl, trivial⟩ ⟨rfl, rfl, trivial⟩ ?_
      intro i hi
      refine sxCode_sound c1_ok (G := G_qed) (pl := pl_qed) _ _ _ _ (by kernel_rfl) ?_
      by_cases hil : i < E.length
      · have hx := List.getElem?_eq_getElem hil
        generalize E[i] = x at hx
        have hxd : (E.map dE)[i]? = some (.agg [.int .i64 x.a, .int .i64 x.b]) := by rw [List.getElem?_map, hx]; rfl
        have h1 := index_pure V x.a
        have h2 := index_pure V x.b
        (conv => whnf)
        (repeat' ((first | refine ord_ok (by (conv => whnf); (repeat' ((first | refine at_da hxd rfl ?_ | refine call_eqb tab rfl h1 rfl ?_ | refine call_eqb tab rfl h2 rfl ?_ | refine ify ?_ | refine ifn ?_ | refine i6 ?_ | refine ati ?_ | refine mst ?_ | refine rmd ?_ | refine ibo (fun _ => ?_) (fun _ => ?_)) <;> conv => whnf)); (all_goals (repeat' (first | exact trivial | exact rfl | refine And.intro ?_ ?_)))) ?_ | refine at_da hxd rfl ?_ | refine call_eqb tab rfl h1 rfl ?_ | refine call_eqb tab rfl h2 rfl ?_ | refine ify ?_ | refine ifn ?_ | refine i6 ?_ | refine ati ?_ | refine mst ?_ | refine rmd ?_ | refine ibo (fun _ => ?_) (fun _ => ?_)) <;> conv => whnf))
        refine ⟨i + 1, _, _, by omega, .refl _ _, ⟨rfl, rfl, rfl, rfl, rfl, rfl, rfl, trivial⟩, ⟨rfl, slice_is ?_, trivial⟩, by omega⟩
        rw [List.take_add_one, hx]; simp [dE, atE]
      · have e : E.take i = E := List.take_of_length_le (by omega)
        rw [e]
        (conv => whnf)
        (repeat' ((first | refine ord_ok (by (conv => whnf); (repeat' ((first | refine call_frz 300 rfl ?_ | refine call_eq rfl hql ?_ | refine call_eq rfl hmk ?_ | refine ify ?_ | refine ifn ?_ | refine i6 ?_ | refine ati ?_ | refine mst ?_ | refine rmd ?_ | refine ibo (fun _ => ?_) (fun _ => ?_)) <;> conv => whnf)); (all_goals (repeat' (first | exact trivial | exact rfl | refine And.intro ?_ ?_)))) ?_ | refine call_frz 300 rfl ?_ | refine call_eq rfl hql ?_ | refine call_eq rfl hmk ?_ | refine ify ?_ | refine ifn ?_ | refine i6 ?_ | refine ati ?_ | refine mst ?_ | refine rmd ?_ | refine ibo (fun _ => ?_) (fun _ => ?_)) <;> conv => whnf))
        exact rfl
end Go.Proofs.YteigfapjiekdnaaGreatDoor
end

section
/- From an owned slice to data; slices.Clone of ints as data, in a world. -/
namespace Go.Proofs.YteigfapjiekdnaaGreatDoor
open Go.Sx Go.RowKit Go.Reg Go.Gr

set_option maxRecDepth 100000
theorem css_len {O : List Nat} {w : World} : ∀ {ds : List Da} {css : List (List Value)}, RepCss O w ds css → css.length = ds.length
  | [], css, h => by simp only [RepCss] at h; subst h; rfl
  | d :: ds, css, h => by
    simp only [RepCss] at h
    obtain ⟨c1, c2, rfl, _, h⟩ := h
    simp [css_len h]
theorem rep_of_sl {O : List Nat} {w : World} {E k : Nat} {v : Value} {css : List (List Value)} {ds : List Da} (hs : Sl E k id w v css) (hb : ∀ b, v.ownBlock = some b → b ∉ O) (hr : RepCss O w ds css) (hk : ∀ x ∈ css, RowOk k x) : Rep O w (.list k ds) v := by
  have hl := css_len hr
  rcases hs.2 with ⟨rfl, hn⟩ | ⟨g, cap, cur, rfl, _, hg, hnc, hcm, hcs, htake⟩
  · have : css = [] := List.eq_nil_of_length_eq_zero hn
    subst this
    have : ds = [] := List.eq_nil_of_length_eq_zero (by simpa using hl.symm)
    subst this
    exact ⟨[.slice none 0 0], by simp only [RepC]; exact ⟨none, 0, [], rfl, by simp, by unfold maxLen; omega, by simp [RepCss], by simp, .inl (by simp)⟩, rfl⟩
  · refine ⟨[.slice (some ⟨g, 0, none⟩) css.length cap], ?_, rfl⟩
    simp only [RepC]
    refine ⟨_, cap, css, by rw [hl], by rw [← hl]; exact hnc, hcm, hr, hk, .inr ⟨g, 0, rfl, hb g rfl, (Array.getElem?_eq_some_iff.1 hg).1, ?_⟩⟩
    have he : css.flatMap id = css.flatten := by simp [List.flatMap_id]
    intro j u hj
    rw [← he, ← htake, List.getElem?_take] at hj
    split at hj
    · simp only [World.cell?, hg, Nat.zero_add]
      simpa using hj
    · cases hj
theorem clone_rep {O : List Nat} {A : World} (hO : ∀ b ∈ O, b < A.heap.size) (hg : Glob C1 O A) {x : List Int} (hx : x.length ≤ 4294967296) {v : Value} (h : Rep O A (dIs x) v) :
    Calls Tryz.prog 55 #[v] A fun e B => ∃ u, e = .returned u ∧ Rep O B (dIs x) u ∧ Tch [] A B := by
  obtain ⟨_, hc⟩ := clone_sl x hx O A [v] hO hg (reps_cons h reps_nil)
  refine hc.mono ?_
  rintro e B ⟨u, css, ds, rfl, rfl, hs, hb, hr, hk, ht⟩
  refine ⟨u, rfl, rep_of_sl hs (fun b hb' hm => ?_) ?_ hk, ht⟩
  · have := hb b hb'; have := hO b hm; omega
  · exact RepCss.later ⟨Nat.le_refl _, fun _ _ _ => rfl, fun b hb' _ => fun hm => hb' (List.mem_append_left _ hm)⟩ _ css hr
end Go.Proofs.YteigfapjiekdnaaGreatDoor
end
