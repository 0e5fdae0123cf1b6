/- Merged: Prn Ptu. -/
import Derived.Test.YteigfapjiekdnaaGreatDoorKeaq
import Derived.Test.YteigfapjiekdnaaGreatDoorKeak
import Derived.Test.YteigfapjiekdnaaGreatDoorKeaf
section
/- perm: wrong, with, Put. -/
namespace Go.Proofs.YteigfapjiekdnaaGreatDoor
open Go.Sx Go.RowKit Go.Reg Go.Gr

set_option maxRecDepth 100000
def ordS : ByteArray := ⟨#[111, 114, 100, 101, 114]⟩
/-- a list put in an order, of the first i things -/
def putL (p l : List Int) (i : Nat) : List Int := ((p.zip l).take i).foldl (fun out z => out.set z.1.toNat z.2) (List.replicate l.length 0)
theorem putL_len (p l : List Int) (i : Nat) : (putL p l i).length = l.length := by
  unfold putL
  suffices h : ∀ (zs : List (Int × Int)) (out : List Int), (zs.foldl (fun out z => out.set z.1.toNat z.2) out).length = out.length by
    rw [h, List.length_replicate]
  intro zs
  induction zs with
  | nil => intro out; rfl
  | cons z zs ih => intro out; rw [List.foldl_cons, ih, List.length_set]
theorem putL_step {p l : List Int} {i : Nat} {x y : Int} (hx : p[i]? = some x) (hy : l[i]? = some y) : putL p l (i + 1) = (putL p l i).set x.toNat y := by
  unfold putL
  have hz : (p.zip l)[i]? = some (x, y) := by rw [List.getElem?_zip_eq_some]; exact ⟨hx, hy⟩
  rw [List.take_add_one, hz, Option.toList_some, List.foldl_append]
  rfl
def withY (p l : List Int) : Da := if ordR p = false then dF 1 0 ordS else if p.length = l.length then .nili else dF 1 1 ordS
def pl_pmg0 : List (Nat × Plan) := []
def G_pmg0 : List FuncId := [63]
theorem cok_pmg0 : codeOk Tryz.prog G_pmg0 pl_pmg0 (Tryz.f76.body.getD .skip) = true := by kernel_rfl
theorem run_pmg0 (vs : Array Value) (w : World) : (callFunc 76 vs).run C1.P w = .ok (.enter 76 vs) w := by kernel_rfl
theorem wrong_pure (a : Int) : Pure C1 76 [.int .i64 a] (fun y => y = dF 1 a ordS) := by
  refine pure_of c1_ok (pl := pl_pmg0) (G := G_pmg0) Tryz.func76 rfl Tryz.ntmps76 run_pmg0 cok_pmg0 (by simp) ?_
  (conv => whnf)
  (repeat' ((first | refine ord_ok (by (conv => whnf); (repeat' ((first | refine call_eq rfl (fnew_pure 1 a ordS) ?_ | refine ify ?_ | refine ifn ?_ | refine i6 ?_ | refine ati ?_ | refine mst ?_ | refine rmd ?_ | refine ibo (fun _ => ?_) (fun _ => ?_)) <;> conv => whnf)); (all_goals (repeat' (first | exact trivial | exact rfl | refine And.intro ?_ ?_)))) ?_ | refine call_eq rfl (fnew_pure 1 a ordS) ?_ | refine ify ?_ | refine ifn ?_ | refine i6 ?_ | refine ati ?_ | refine mst ?_ | refine rmd ?_ | refine ibo (fun _ => ?_) (fun _ => ?_)) <;> conv => whnf))
  exact rfl
def pl_pmw : List (Nat × Plan) := []
def G_pmw : List FuncId := [76, 156]
theorem cok_pmw : codeOk Tryz.prog G_pmw pl_pmw (Tryz.f130.body.getD .skip) = true := by kernel_rfl
theorem run_pmw (vs : Array Value) (w : World) : (callFunc 130 vs).run C1.P w = .ok (.enter 130 vs) w := by kernel_rfl
theorem with_pure (p l : List Int) (hm : p.length ≤ 9000000000000000000) : Pure C1 130 [dIs p, dIs l] (fun y => y = withY p l) := by
  have hdp : (p.map dI).length = p.length := List.length_map _
  have hdl : (l.map dI).length = l.length := List.length_map _
  have hr := permright_pure p hm
  unfold withY
  refine pure_of c1_ok (pl := pl_pmw) (G := G_pmw) Tryz.func130 rfl Tryz.ntmps130 run_pmw cok_pmw (by simp) ?_
  cases h : ordR p with
  | false =>
    rw [h] at hr
    rw [if_pos rfl]
    (conv => whnf)
    (repeat' ((first | refine ord_ok (by (conv => whnf); (repeat' ((first | refine call_eq rfl hr ?_ | refine call_eq rfl (wrong_pure 0) ?_ | refine ify ?_ | refine ifn ?_ | refine i6 ?_ | refine ati ?_ | refine mst ?_ | refine rmd ?_ | refine ibo (fun _ => ?_) (fun _ => ?_)) <;> conv => whnf)); (all_goals (repeat' (first | exact trivial | exact rfl | refine And.intro ?_ ?_)))) ?_ | refine call_eq rfl hr ?_ | refine call_eq rfl (wrong_pure 0) ?_ | refine ify ?_ | refine ifn ?_ | refine i6 ?_ | refine ati ?_ | refine mst ?_ | refine rmd ?_ | refine ibo (fun _ => ?_) (fun _ => ?_)) <;> conv => whnf))
    exact rfl
  | true =>
    rw [h] at hr
    rw [if_neg (by decide)]
    by_cases hl : p.length = l.length
    · rw [if_pos hl]
      (conv => whnf)
      (repeat' ((first | refine ord_ok (by (conv => whnf); (repeat' ((first | refine call_eq rfl hr ?_ | refine ify ?_ | refine ifn ?_ | refine i6 ?_ | refine ati ?_ | refine mst ?_ | refine rmd ?_ | refine ibo (fun _ => ?_) (fun _ => ?_)) <;> conv => whnf)); (all_goals (repeat' (first | exact trivial | exact rfl | refine And.intro ?_ ?_)))) ?_ | refine call_eq rfl hr ?_ | refine ify ?_ | refine ifn ?_ | refine i6 ?_ | refine ati ?_ | refine mst ?_ | refine rmd ?_ | refine ibo (fun _ => ?_) (fun _ => ?_)) <;> conv => whnf))
      exact rfl
    · rw [if_neg hl]
      (conv => whnf)
      (repeat' ((first | refine ord_ok (by (conv => whnf); (repeat' ((first | refine call_eq rfl hr ?_ | refine call_eq rfl (wrong_pure 1) ?_ | refine ify ?_ | refine ifn ?_ | refine i6 ?_ | refine ati ?_ | refine mst ?_ | refine rmd ?_ | refine ibo (fun _ => ?_) (fun _ => ?_)) <;> conv => whnf)); (all_goals (repeat' (first | exact trivial | exact rfl | refine And.intro ?_ ?_)))) ?_ | refine call_eq rfl hr ?_ | refine call_eq rfl (wrong_pure 1) ?_ | refine ify ?_ | refine ifn ?_ | refine i6 ?_ | refine ati ?_ | refine mst ?_ | refine rmd ?_ | refine ibo (fun _ => ?_) (fun _ => ?_)) <;> conv => whnf))
      exact rfl
def putY (p l : List Int) : Da := if ordR p = false then .tuple [.nils, dF 1 0 ordS] else if p.length = l.length then .tuple [dIs (putL p l p.length), .nili] else .tuple [.nils, dF 1 1 ordS]
def pl_pmp : List (Nat × Plan) := []
def G_pmp : List FuncId := [130]
theorem cok_pmp : codeOk Tryz.prog G_pmp pl_pmp (Tryz.f79.body.getD .skip) = true := by kernel_rfl
theorem run_pmp (vs : Array Value) (w : World) : (callFunc 79 vs).run C1.P w = .ok (.enter 79 vs) w := by kernel_rfl
set_option maxHeartbeats 4000000 in
theorem permput_pure (p l : List Int) (hm : p.length ≤ 9000000000000000000) : Pure C1 79 [dIs p, dIs l] (fun y => y = putY p l) := by
  have hdp : (p.map dI).length = p.length := List.length_map _
  have hdl : (l.map dI).length = l.length := List.length_map _
  have hw := with_pure p l hm
  unfold putY
  unfold withY at hw
  refine pure_of c1_ok (pl := pl_pmp) (G := G_pmp) Tryz.func79 rfl Tryz.ntmps79 run_pmp cok_pmp (by simp) ?_
  cases h : ordR p with
  | false =>
    rw [h, if_pos rfl] at hw
    rw [if_pos rfl]
    (conv => whnf)
    (repeat' ((first | refine ord_ok (by (conv => whnf); (repeat' ((first | refine call_eq rfl hw ?_ | refine ify ?_ | refine ifn ?_ | refine i6 ?_ | refine ati ?_ | refine mst ?_ | refine rmd ?_ | refine ibo (fun _ => ?_) (fun _ => ?_)) <;> conv => whnf)); (all_goals (repeat' (first | exact trivial | exact rfl | refine And.intro ?_ ?_)))) ?_ | refine call_eq rfl hw ?_ | refine ify ?_ | refine ifn ?_ | refine i6 ?_ | refine ati ?_ | refine mst ?_ | refine rmd ?_ | refine ibo (fun _ => ?_) (fun _ => ?_)) <;> conv => whnf))
    exact rfl
  | true =>
    rw [h, if_neg (by decide)] at hw
    rw [if_neg (by decide)]
    by_cases hl : p.length = l.length
    · rw [if_pos hl] at hw ⊢
      have h2 := h
      unfold ordR at h2
      simp only [Bool.and_eq_true, decide_eq_true_eq] at h2
      obtain ⟨h8, hr, hn⟩ := h2
      (conv => whnf)
      (repeat' ((first | refine ord_ok (by (conv => whnf); (repeat' ((first | refine call_eq rfl hw ?_ | refine mk_ok l.length (by omega) (by omega) (by omega) ?_ | refine ify ?_ | refine ifn ?_ | refine i6 ?_ | refine ati ?_ | refine mst ?_ | refine rmd ?_ | refine ibo (fun _ => ?_) (fun _ => ?_)) <;> conv => whnf)); (all_goals (repeat' (first | exact trivial | exact rfl | refine And.intro ?_ ?_)))) ?_ | refine call_eq rfl hw ?_ | refine mk_ok l.length (by omega) (by omega) (by omega) ?_ | refine ify ?_ | refine ifn ?_ | refine i6 ?_ | refine ati ?_ | refine mst ?_ | refine rmd ?_ | refine ibo (fun _ => ?_) (fun _ => ?_)) <;> conv => whnf))
      refine loop_lo (ι := Nat) (fun i => i ≤ p.length) (fun i => [(21, .d (.int .i64 i)), (20, .d (.int .i64 (p.map dI).length)), (19, .d (dIs p)), (7, .own 18), (1, .d (dIs l))]) (fun i => [(18, .slice 3 1 ((putL p l i).map dI))]) (fun i => p.length - i) 0 (fun _ => rfl) (Nat.zero_le _) (.refl _ _) ⟨rfl, rfl, rfl, rfl, rfl, trivial⟩ ⟨slice_is (by simp [putL, dI]), trivial⟩ ?_
      intro i hi
      refine sxCode_sound c1_ok (G := G_pmp) (pl := pl_pmp) _ _ _ _ (by kernel_rfl) ?_
      by_cases hil : i < p.length
      · have hx := List.getElem?_eq_getElem hil
        have hxm := hr _ (List.getElem_mem hil)
        generalize p[i] = x at hx hxm
        have hy := List.getElem?_eq_getElem (l := l) (i := i) (by omega)
        generalize l[i]'(by omega) = y at hy
        obtain ⟨k, rfl⟩ := Int.eq_ofNat_of_zero_le hxm.1
        have hxd : (p.map dI)[i]? = some (.int .i64 k) := by rw [List.getElem?_map, hx]; rfl
        have hyd : (l.map dI)[i]? = some (.int .i64 y) := by rw [List.getElem?_map, hy]; rfl
        have hpl : ((putL p l i).map dI).length = l.length := by rw [List.length_map, putL_len]
        have hst := putL_step hx hy
        have hk : k < (putL p l i).length := by rw [putL_len]; omega
        obtain ⟨u, hu⟩ : ∃ u, (putL p l i)[k]? = some u := ⟨_, List.getElem?_eq_getElem hk⟩
        have hud : ((putL p l i).map dI)[k]? = some (.int .i64 u) := by rw [List.getElem?_map, hu]; rfl
        (conv => whnf)
        (repeat' ((first | refine ord_ok (by (conv => whnf); (repeat' ((first | refine at_da hxd rfl ?_ | refine at_da hyd rfl ?_ | refine el_at (i := k) rfl (by omega) ?_ | refine el_is hud ?_ | refine ify ?_ | refine ifn ?_ | refine i6 ?_ | refine ati ?_ | refine mst ?_ | refine rmd ?_ | refine ibo (fun _ => ?_) (fun _ => ?_)) <;> conv => whnf)); (all_goals (repeat' (first | exact trivial | exact rfl | refine And.intro ?_ ?_)))) ?_ | refine at_da hxd rfl ?_ | refine at_da hyd rfl ?_ | refine el_at (i := k) rfl (by omega) ?_ | refine el_is hud ?_ | refine ify ?_ | refine ifn ?_ | refine i6 ?_ | refine ati ?_ | refine mst ?_ | refine rmd ?_ | refine ibo (fun _ => ?_) (fun _ => ?_)) <;> conv => whnf))
        refine ⟨i + 1, _, _, by omega, .refl _ _, ⟨rfl, rfl, rfl, rfl, rfl, trivial⟩, ⟨slice_is ?_, trivial⟩, by omega⟩
        rw [hst, List.map_set]
        simp [dI]
      · have e : i = p.length := by omega
        subst e
        ((conv => whnf); repeat' ((first | refine odw ?_ | refine ify ?_ | refine ifn ?_ | refine i6 ?_ | refine ati ?_ | refine mst ?_ | refine rmd ?_ | refine ibo (fun _ => ?_) (fun _ => ?_)) <;> conv => whnf))
        exact rfl
    · rw [if_neg hl] at hw ⊢
      (conv => whnf)
      (repeat' ((first | refine ord_ok (by (conv => whnf); (repeat' ((first | refine call_eq rfl hw ?_ | refine ify ?_ | refine ifn ?_ | refine i6 ?_ | refine ati ?_ | refine mst ?_ | refine rmd ?_ | refine ibo (fun _ => ?_) (fun _ => ?_)) <;> conv => whnf)); (all_goals (repeat' (first | exact trivial | exact rfl | refine And.intro ?_ ?_)))) ?_ | refine call_eq rfl hw ?_ | refine ify ?_ | refine ifn ?_ | refine i6 ?_ | refine ati ?_ | refine mst ?_ | refine rmd ?_ | refine ibo (fun _ => ?_) (fun _ => ?_)) <;> conv => whnf))
      exact rfl
end Go.Proofs.YteigfapjiekdnaaGreatDoor
end

section
/- pat.Turn: of a right pattern by an order. -/
namespace Go.Gr
/-- an edge, its places by an order -/
def mvE (b : List Int) (e : Edg) : Edg := turn ⟨(b[e.a.toNat]?).getD 0, (b[e.b.toNat]?).getD 0⟩
theorem pErr_none {p : Pt} (h : pErr p = none) : lErr p.labels = none ∧ (∀ e ∈ p.edges, 0 ≤ e.a ∧ e.a < e.b ∧ e.b < p.labels.length) ∧ Strict p.edges := by
  unfold pErr at h
  cases hl : lErr p.labels with
  | some x => rw [hl] at h; cases h
  | none =>
    rw [hl] at h
    obtain ⟨h1, h2⟩ := eErr_none h
    refine ⟨rfl, h1, ?_⟩
    unfold Strict
    rw [List.pairwise_iff_getElem]
    intro i j hi hj hij
    obtain ⟨d, rfl⟩ : ∃ d, j = i + 1 + d := ⟨j - (i + 1), by omega⟩
    induction d with
    | zero => exact h2 i _ _ (List.getElem?_eq_getElem hi) (List.getElem?_eq_getElem hj)
    | succ d ih =>
      have hj' : i + 1 + d < p.edges.length := by omega
      exact cmpE_trans (ih hj' (by omega)) (h2 (i + 1 + d) _ _ (List.getElem?_eq_getElem hj') (List.getElem?_eq_getElem hj))
end Go.Gr
namespace Go.Proofs.YteigfapjiekdnaaGreatDoor
open Go.Sx Go.RowKit Go.Reg Go.Gr

set_option maxRecDepth 100000
def turnP (p : Pt) (b : List Int) : Pt := ⟨putL b p.labels b.length, (p.edges.map (mvE b)).foldl insE []⟩
theorem ord_spec {b : List Int} (h : ordR b = true) : b.length ≤ 8 ∧ (∀ x ∈ b, 0 ≤ x ∧ x < b.length) ∧ b.Nodup := by
  unfold ordR at h
  simp only [Bool.and_eq_true, decide_eq_true_eq] at h
  exact ⟨h.1, h.2.1, h.2.2⟩
theorem mv_at {b : List Int} {e : Edg} (h : 0 ≤ e.a ∧ e.a < e.b ∧ e.b < b.length) : ∃ u v : Int, b[e.a.toNat]? = some u ∧ b[e.b.toNat]? = some v ∧ mvE b e = turn ⟨u, v⟩ := by
  have h1 : e.a.toNat < b.length := by omega
  have h2 : e.b.toNat < b.length := by omega
  exact ⟨_, _, List.getElem?_eq_getElem h1, List.getElem?_eq_getElem h2, by unfold mvE; rw [List.getElem?_eq_getElem h1, List.getElem?_eq_getElem h2]; rfl⟩
theorem mv_nodup {b : List Int} (hb : b.Nodup) {E : List Edg} (hE : ∀ e ∈ E, 0 ≤ e.a ∧ e.a < e.b ∧ e.b < b.length) (hn : E.Nodup) : (E.map (mvE b)).Nodup := by
  refine List.pairwise_map.2 (List.Pairwise.imp_of_mem ?_ hn)
  intro x y hx hy hxy h
  refine hxy ?_
  obtain ⟨u, v, h1, h2, h3⟩ := mv_at (hE x hx)
  obtain ⟨u2, v2, k1, k2, k3⟩ := mv_at (hE y hy)
  rw [h3, k3] at h
  have hxe := hE x hx
  have hye := hE y hy
  have hcase : (u = u2 ∧ v = v2) ∨ (u = v2 ∧ v = u2) := by unfold turn at h; simp only [Edg.mk.injEq] at h; omega
  rcases hcase with ⟨rfl, rfl⟩ | ⟨rfl, rfl⟩
  · have e1 := (List.getElem?_inj (by omega) hb).1 (h1.trans k1.symm)
    have e2 := (List.getElem?_inj (by omega) hb).1 (h2.trans k2.symm)
    cases x; cases y; simp only [Edg.mk.injEq] at *; omega
  · have e1 := (List.getElem?_inj (by omega) hb).1 (h1.trans k2.symm)
    have e2 := (List.getElem?_inj (by omega) hb).1 (h2.trans k1.symm)
    omega
theorem turn_turn (e : Edg) : turn (turn e) = turn e := by unfold turn; simp only [Edg.mk.injEq]; omega
theorem mv_fold {b : List Int} {E : List Edg} (hn : (E.map (mvE b)).Nodup) {out : List Edg} (hp : out.Perm (E.map (mvE b))) (ho : out.Pairwise (fun a c => ¬ cmpE c a < 0)) : out = (E.map (mvE b)).foldl insE [] := by
  obtain ⟨h1, h2⟩ := fold_ins _ hn [] List.Pairwise.nil (by simp)
  rw [List.append_nil] at h2
  exact strict_eq (hp.trans h2.symm) (strict_of (hp.nodup_iff.2 hn) ho) h1
def pl_ptn : List (Nat × Plan) := [(11, .leaf [0, 1, 0, 0, 1, 0, 1, 0, 0, 1, 0, 1, 0, 2, 6, 3, 0, 3] [0, 2, 3, 7, 8, 1, 4, 5, 6, 9, 10, 11, 12, 13, 14, 15, 16, 17] [0, 1, 0, 0, 8, 28, 60, 0, 0, 256, 896, 1920, 4092, 8188, 16380, 32767, 65535, 131071])]
def G_ptn : List FuncId := [31, 79, 69]
theorem cok_ptn : codeOk Tryz.prog G_ptn pl_ptn (Tryz.f33.body.getD .skip) = true := by kernel_rfl
theorem run_ptn (vs : Array Value) (w : World) : (callFunc 33 vs).run C1.P w = .ok (.enter 33 vs) w := by kernel_rfl
set_option maxHeartbeats 4000000 in
theorem pturn_pure (p : Pt) (hp : pErr p = none) (hE : p.edges.length ≤ 1000) (b : List Int) (hb : ordR b = true) (hbl : b.length = p.labels.length) :
    Pure C1 33 [dPt p, dIs b] (fun y => y = .tuple [dPt (turnP p b), .nili]) := by
  have hdl : (p.labels.map dI).length = p.labels.length := List.length_map _
  have hde : (p.edges.map dE).length = p.edges.length := List.length_map _
  have hdb : (b.map dI).length = b.length := List.length_map _
  obtain ⟨hl, he, hs⟩ := pErr_none hp
  obtain ⟨h8, hbr, hbn⟩ := ord_spec hb
  have hri := pright_pure p (by omega) (by omega)
  rw [rightP_none hp] at hri
  have hpu := permput_pure b p.labels (by omega)
  have epu : putY b p.labels = .tuple [dIs (putL b p.labels b.length), .nili] := by unfold putY; rw [hb, if_neg (by decide), if_pos hbl]
  rw [epu] at hpu
  refine pure_of c1_ok (pl := pl_ptn) (G := G_ptn) Tryz.func33 rfl Tryz.ntmps33 run_ptn cok_ptn (by simp) ?_
  (conv => whnf)
  (repeat' ((first | refine ord_ok (by (conv => whnf); (repeat' ((first | refine call_eq rfl hri ?_ | refine call_eq rfl hpu ?_ | refine ify ?_ | refine ifn ?_ | refine i6 ?_ | refine ati ?_ | refine mst ?_ | refine rmd ?_ | refine ibo (fun _ => ?_) (fun _ => ?_)) <;> conv => whnf)); (all_goals (repeat' (first | exact trivial | exact rfl | refine And.intro ?_ ?_)))) ?_ | refine call_eq rfl hri ?_ | refine call_eq rfl hpu ?_ | refine ify ?_ | refine ifn ?_ | refine i6 ?_ | refine ati ?_ | refine mst ?_ | refine rmd ?_ | refine ibo (fun _ => ?_) (fun _ => ?_)) <;> conv => whnf))
  refine loop_lo (ι := Nat) (fun i => i ≤ p.edges.length) (fun i => [(35, .d (.int .i64 i)), (34, .d (.int .i64 (p.edges.map dE).length)), (33, .d (dEs p.edges)), (9, .own 9), (4, .own 4), (2, .own 2), (1, .d (dIs b))]) (fun i => [(2, .cells 38 [.d (dIs p.labels), .d (dEs p.edges)]), (4, .cells 38 [.d .nils, .d .nils]), (9, .cells 38 [.d (dIs (putL b p.labels b.length)), .own 300]), (300, .slice 40 2 (((p.edges.take i).map (mvE b)).map dE))]) (fun i => p.edges.length - i) 0 (fun _ => rfl) (Nat.zero_le _) (.ownc 9 300 40 2 rfl rfl (.there _ (.here _)) (.refl _ _)) ⟨rfl, rfl, rfl, rfl, rfl, rfl, rfl, trivial⟩ ⟨rfl, rfl, rfl, rfl, trivial⟩ ?_
  intro i hi
  refine sxCode_sound c1_ok (G := G_ptn) (pl := pl_ptn) _ _ _ _ (by kernel_rfl) ?_
  by_cases hil : i < p.edges.length
  · have hx := List.getElem?_eq_getElem hil
    have hxr := he _ (List.getElem_mem hil)
    generalize p.edges[i] = x at hx hxr
    have hxd : (p.edges.map dE)[i]? = some (.agg [.int .i64 x.a, .int .i64 x.b]) := by rw [List.getElem?_map, hx]; rfl
    obtain ⟨u, v, hu, hv, hmv⟩ := mv_at (b := b) (e := x) (by rw [hbl]; exact hxr)
    obtain ⟨xa, xb⟩ := x
    obtain ⟨ka, rfl⟩ := Int.eq_ofNat_of_zero_le hxr.1
    obtain ⟨kb, rfl⟩ := Int.eq_ofNat_of_zero_le (show 0 ≤ xb by have h1 := hxr.1; have h2 := hxr.2.1; simp only at h1 h2; omega)
    have hud : (b.map dI)[ka]? = some (.int .i64 u) := by rw [List.getElem?_map, show b[ka]? = some u from hu]; rfl
    have hvd : (b.map dI)[kb]? = some (.int .i64 v) := by rw [List.getElem?_map, show b[kb]? = some v from hv]; rfl
    have htu := pturned_pure ⟨u, v⟩
    rw [← hmv] at htu
    have hll : (p.edges.take i).length = i := by rw [List.length_take]; omega
    (conv => whnf)
    (repeat' ((first | refine ord_ok (by (conv => whnf); (repeat' ((first | refine at_da hxd rfl ?_ | refine at_da hud rfl ?_ | refine at_da hvd rfl ?_ | refine call_eq rfl htu ?_ | refine ify ?_ | refine ifn ?_ | refine i6 ?_ | refine ati ?_ | refine mst ?_ | refine rmd ?_ | refine ibo (fun _ => ?_) (fun _ => ?_)) <;> conv => whnf)); (all_goals (repeat' (first | exact trivial | exact rfl | refine And.intro ?_ ?_)))) ?_ | refine at_da hxd rfl ?_ | refine at_da hud rfl ?_ | refine at_da hvd rfl ?_ | refine call_eq rfl htu ?_ | refine ify ?_ | refine ifn ?_ | refine i6 ?_ | refine ati ?_ | refine mst ?_ | refine rmd ?_ | refine ibo (fun _ => ?_) (fun _ => ?_)) <;> conv => whnf))
    refine ⟨i + 1, _, _, by omega, .refl _ _, ⟨rfl, rfl, rfl, rfl, rfl, rfl, rfl, trivial⟩, ⟨rfl, rfl, rfl, slice_is ?_, trivial⟩, by omega⟩
    rw [List.take_add_one, hx]; simp
  · have e : p.edges.take i = p.edges := List.take_of_length_le (by omega)
    rw [e]
    have hmn := mv_nodup hbn (E := p.edges) (fun e h => by rw [hbl]; exact he e h) hs.nodup
    ((conv => whnf); repeat' ((first | refine odw ?_ | refine ify ?_ | refine ifn ?_ | refine i6 ?_ | refine ati ?_ | refine mst ?_ | refine rmd ?_ | refine ibo (fun _ => ?_) (fun _ => ?_)) <;> conv => whnf))
    refine call_tsl (i := 300) rfl rfl (pasort_tsl (p.edges.map (mvE b)) (by rw [List.length_map]; omega)) ?_
    rintro y ds ⟨out, rfl, hpo, hoo⟩
    rw [mv_fold hmn hpo hoo]
    ((conv => whnf); repeat' ((first | refine odw ?_ | refine ify ?_ | refine ifn ?_ | refine i6 ?_ | refine ati ?_ | refine mst ?_ | refine rmd ?_ | refine ibo (fun _ => ?_) (fun _ => ?_)) <;> conv => whnf))
    exact rfl
end Go.Proofs.YteigfapjiekdnaaGreatDoor
end
