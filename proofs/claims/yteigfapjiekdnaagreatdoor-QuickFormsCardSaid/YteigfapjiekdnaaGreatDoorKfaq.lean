/- Merged: Ptu. -/
import Derived.Test.YteigfapjiekdnaaGreatDoorKfao
import Derived.Test.YteigfapjiekdnaaGreatDoorKfap
import Derived.Test.YteigfapjiekdnaaGreatDoorKfak
import Derived.Test.YteigfapjiekdnaaGreatDoorKfaf
section
/- pat.Turn: of a right pattern by an order. -/
namespace Go.Gr
/-- an edge, its places by an order -/
def mvE (b : List Int) (e : Edg) : Edg := turn ⟨(b[e.a.toNat]?).getD 0, (b[e.b.toNat]?).getD 0⟩
theorem pErr_none {p : Pt} (h : pErr p = none) : lErr p.labels = none ∧ (∀ e ∈ p.edges, 0 ≤ e.a ∧ e.a < e.b ∧ e.b < p.labels.length) ∧ Strict p.edges := by
  unfold pErr at h
  cases hl : lErr p.labels with
  | some x => rw [hl] at h; cases h
  | none =>
    rw [hl] at h
    obtain ⟨h1, h2⟩ := eErr_none h
    refine ⟨rfl, h1, ?_⟩
    unfold Strict
    rw [List.pairwise_iff_getElem]
    intro i j hi hj hij
    obtain ⟨d, rfl⟩ : ∃ d, j = i + 1 + d := ⟨j - (i + 1), by omega⟩
    induction d with
    | zero => exact h2 i _ _ (List.getElem?_eq_getElem hi) (List.getElem?_eq_getElem hj)
    | succ d ih =>
      have hj' : i + 1 + d < p.edges.length := by omega
      exact cmpE_trans (ih hj' (by omega)) (h2 (i + 1 + d) _ _ (List.getElem?_eq_getElem hj') (List.getElem?_eq_getElem hj))
end Go.Gr
namespace Go.Proofs.YteigfapjiekdnaaGreatDoor
open Go.Sx Go.RowKit Go.Reg Go.Gr

set_option maxRecDepth 100000
def turnP (p : Pt) (b : List Int) : Pt := ⟨putL b p.labels b.length, (p.edges.map (mvE b)).foldl insE []⟩
theorem ord_spec {b : List Int} (h : ordR b = true) : b.length ≤ 8 ∧ (∀ x ∈ b, 0 ≤ x ∧ x < b.length) ∧ b.Nodup := by
  unfold ordR at h
  simp only [Bool.and_eq_true, decide_eq_true_eq] at h
  exact ⟨h.1, h.2.1, h.2.2⟩
theorem mv_at {b : List Int} {e : Edg} (h : 0 ≤ e.a ∧ e.a < e.b ∧ e.b < b.length) : ∃ u v : Int, b[e.a.toNat]? = some u ∧ b[e.b.toNat]? = some v ∧ mvE b e = turn ⟨u, v⟩ := by
  have h1 : e.a.toNat < b.length := by omega
  have h2 : e.b.toNat < b.length := by omega
  exact ⟨_, _, List.getElem?_eq_getElem h1, List.getElem?_eq_getElem h2, by unfold mvE; rw [List.getElem?_eq_getElem h1, List.getElem?_eq_getElem h2]; rfl⟩
theorem mv_nodup {b : List Int} (hb : b.Nodup) {E : List Edg} (hE : ∀ e ∈ E, 0 ≤ e.a ∧ e.a < e.b ∧ e.b < b.length) (hn : E.Nodup) : (E.map (mvE b)).Nodup := by
  refine List.pairwise_map.2 (List.Pairwise.imp_of_mem ?_ hn)
  intro x y hx hy hxy h
  refine hxy ?_
  obtain ⟨u, v, h1, h2, h3⟩ := mv_at (hE x hx)
  obtain ⟨u2, v2, k1, k2, k3⟩ := mv_at (hE y hy)
  rw [h3, k3] at h
  have hxe := hE x hx
  have hye := hE y hy
  have hcase : (u = u2 ∧ v = v2) ∨ (u = v2 ∧ v = u2) := by unfold turn at h; simp only [Edg.mk.injEq] at h; omega
  rcases hcase with ⟨rfl, rfl⟩ | ⟨rfl, rfl⟩
  · have e1 := (List.getElem?_inj (by omega) hb).1 (h1.trans k1.symm)
    have e2 := (List.getElem?_inj (by omega) hb).1 (h2.trans k2.symm)
    cases x; cases y; simp only [Edg.mk.injEq] at *; omega
  · have e1 := (List.getElem?_inj (by omega) hb).1 (h1.trans k2.symm)
    have e2 := (List.getElem?_inj (by omega) hb).1 (h2.trans k1.symm)
    omega
theorem turn_turn (e : Edg) : turn (turn e) = turn e := by unfold turn; simp only [Edg.mk.injEq]; omega
theorem mv_fold {b : List Int} {E : List Edg} (hn : (E.map (mvE b)).Nodup) {out : List Edg} (hp : out.Perm (E.map (mvE b))) (ho : out.Pairwise (fun a c => ¬ cmpE c a < 0)) : out = (E.map (mvE b)).foldl insE [] := by
  obtain ⟨h1, h2⟩ := fold_ins _ hn [] List.Pairwise.nil (by simp)
  rw [List.append_nil] at h2
  exact strict_eq (hp.trans h2.symm) (strict_of (hp.nodup_iff.2 hn) ho) h1
def pl_ptn : List (Nat × Plan) := [(11, .leaf [0, 1, 0, 0, 1, 0, 1, 0, 0, 1, 0, 1, 0, 2, 6, 3, 0, 3] [0, 2, 3, 7, 8, 1, 4, 5, 6, 9, 10, 11, 12, 13, 14, 15, 16, 17] [0, 1, 0, 0, 8, 28, 60, 0, 0, 256, 896, 1920, 4092, 8188, 16380, 32767, 65535, 131071])]
def G_ptn : List FuncId := [31, 79, 69]
theorem cok_ptn : codeOk Tryz.prog G_ptn pl_ptn (Tryz.f33.body.getD .skip) = true := by kernel_rfl
theorem run_ptn (vs : Array Value) (w : World) : (callFunc 33 vs).run C1.P w = .ok (.enter 33 vs) w := by kernel_rfl
set_option maxHeartbeats 4000000 in
theorem pturn_pure (p : Pt) (hp : pErr p = none) (hE : p.edges.length ≤ 1000) (b : List Int) (hb : ordR b = true) (hbl : b.length = p.labels.length) :
    Pure C1 33 [dPt p, dIs b] (fun y => y = .tuple [dPt (turnP p b), .nili]) := by
  have hdl : (p.labels.map dI).length = p.labels.length := List.length_map _
  have hde : (p.edges.map dE).length = p.edges.length := List.length_map _
  have hdb : (b.map dI).length = b.length := List.length_map _
  obtain ⟨hl, he, hs⟩ := pErr_none hp
  obtain ⟨h8, hbr, hbn⟩ := ord_spec hb
  have hri := pright_pure p (by omega) (by omega)
  rw [rightP_none hp] at hri
  have hpu := permput_pure b p.labels (by omega)
  have epu : putY b p.labels = .tuple [dIs (putL b p.labels b.length), .nili] := by unfold putY; rw [hb, if_neg (by decide), if_pos hbl]
  rw [epu] at hpu
  refine pure_of c1_ok (pl := pl_ptn) (G := G_ptn) Tryz.func33 rfl Tryz.ntmps33 run_ptn cok_ptn (by simp) ?_
  (conv => whnf)
  (repeat' ((first | refine ord_ok (by (conv => whnf); (repeat' ((first | refine call_eq rfl hri ?_ | refine call_eq rfl hpu ?_ | refine ify ?_ | refine ifn ?_ | refine i6 ?_ | refine ati ?_ | refine mst ?_ | refine rmd ?_ | refine ibo (fun _ => ?_) (fun _ => ?_)) <;> conv => whnf)); (all_goals (repeat' (first | exact trivial | exact rfl | refine And.intro ?_ ?_)))) ?_ | refine call_eq rfl hri ?_ | refine call_eq rfl hpu ?_ | refine ify ?_ | refine ifn ?_ | refine i6 ?_ | refine ati ?_ | refine mst ?_ | refine rmd ?_ | refine ibo (fun _ => ?_) (fun _ => ?_)) <;> conv => whnf))
  refine loop_lo (ι := Nat) (fun i => i ≤ p.edges.length) (fun i => [(35, .d (.int .i64 i)), (34, .d (.int .i64 (p.edges.map dE).length)), (33, .d (dEs p.edges)), (9, .own 9), (4, .own 4), (2, .own 2), (1, .d (dIs b))]) (fun i => [(2, .cells 38 [.d (dIs p.labels), .d (dEs p.edges)]), (4, .cells 38 [.d .nils, .d .nils]), (9, .cells 38 [.d (dIs (putL b p.labels b.length)), .own 300]), (300, .slice 40 2 (((p.edges.take i).map (mvE b)).map dE))]) (fun i => p.edges.length - i) 0 (fun _ => rfl) (Nat.zero_le _) (.ownc 9 300 40 2 rfl rfl (.there _ (.here _)) (.refl _ _)) ⟨rfl, rfl, rfl, rfl, rfl, rfl, rfl, trivial⟩ ⟨rfl, rfl, rfl, rfl, trivial⟩ ?_
  intro i hi
  refine sxCode_sound c1_ok (G := G_ptn) (pl := pl_ptn) _ _ _ _ (by kernel_rfl) ?_
  by_cases hil : i < p.edges.length
  · have hx := List.getElem?_eq_getElem hil
    have hxr := he _ (List.getElem_mem hil)
    generalize p.edges[i] = x at hx hxr
    have hxd : (p.edges.map dE)[i]? = some (.agg [.int .i64 x.a, .int .i64 x.b]) := by rw [List.getElem?_map, hx]; rfl
    obtain ⟨u, v, hu, hv, hmv⟩ := mv_at (b := b) (e := x) (by rw [hbl]; exact hxr)
    obtain ⟨xa, xb⟩ := x
    obtain ⟨ka, rfl⟩ := Int.eq_ofNat_of_zero_le hxr.1
    obtain ⟨kb, rfl⟩ := Int.eq_ofNat_of_zero_le (show 0 ≤ xb by have h1 := hxr.1; have h2 := hxr.2.1; simp only at h1 h2; omega)
    have hud : (b.map dI)[ka]? = some (.int .i64 u) := by rw [List.getElem?_map, show b[ka]? = some u from hu]; rfl
    have hvd : (b.map dI)[kb]? = some (.int .i64 v) := by rw [List.getElem?_map, show b[kb]? = some v from hv]; rfl
    have htu := pturned_pure ⟨u, v⟩
    rw [← hmv] at htu
    have hll : (p.edges.take i).length = i := by rw [List.length_take]; omega
    (conv => whnf)
    (repeat' ((first | refine ord_ok (by (conv => whnf); (repeat' ((first | refine at_da hxd rfl ?_ | refine at_da hud rfl ?_ | refine at_da hvd rfl ?_ | refine call_eq rfl htu ?_ | refine ify ?_ | refine ifn ?_ | refine i6 ?_ | refine ati ?_ | refine mst ?_ | refine rmd ?_ | refine ibo (fun _ => ?_) (fun _ => ?_)) <;> conv => whnf)); (all_goals (repeat' (first | exact trivial | exact rfl | refine And.intro ?_ ?_)))) ?_ | refine at_da hxd rfl ?_ | refine at_da hud rfl ?_ | refine at_da hvd rfl ?_ | refine call_eq rfl htu ?_ | refine ify ?_ | refine ifn ?_ | refine i6 ?_ | refine ati ?_ | refine mst ?_ | refine rmd ?_ | refine ibo (fun _ => ?_) (fun _ => ?_)) <;> conv => whnf))
    refine ⟨i + 1, _, _, by omega, .refl _ _, ⟨rfl, rfl, rfl, rfl, rfl, rfl, rfl, trivial⟩, ⟨rfl, rfl, rfl, slice_is ?_, trivial⟩, by omega⟩
    rw [List.take_add_one, hx]; simp
  · have e : p.edges.take i = p.edges := List.take_of_length_le (by omega)
    rw [e]
    have hmn := mv_nodup hbn (E := p.edges) (fun e h => by rw [hbl]; exact he e h) hs.nodup
    ((conv => whnf); repeat' ((first | refine odw ?_ | refine ify ?_ | refine ifn ?_ | refine i6 ?_ | refine ati ?_ | refine mst ?_ | refine rmd ?_ | refine ibo (fun _ => ?_) (fun _ => ?_)) <;> conv => whnf))
    refine call_tsl (i := 300) rfl rfl (pasort_tsl (p.edges.map (mvE b)) (by rw [List.length_map]; omega)) ?_
    rintro y ds ⟨out, rfl, hpo, hoo⟩
    rw [mv_fold hmn hpo hoo]
    ((conv => whnf); repeat' ((first | refine odw ?_ | refine ify ?_ | refine ifn ?_ | refine i6 ?_ | refine ati ?_ | refine mst ?_ | refine rmd ?_ | refine ibo (fun _ => ?_) (fun _ => ?_)) <;> conv => whnf))
    exact rfl
end Go.Proofs.YteigfapjiekdnaaGreatDoor
end
