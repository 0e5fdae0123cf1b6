/- fretworklaw15.MiniRules returns true and leaves its input as it was, whatever the input. Provided that the listed variables hold what the text lays in them (the row lists them). The walk: mrules_pure. -/
import Derived.Test.YteigfapjiekdnaaGreatDoorKmau
import Derived.Test.YteigfapjiekdnaaGreatDoorKmba
import Derived.Test.YteigfapjiekdnaaGreatDoorKmbf
import Derived.Test.YteigfapjiekdnaaGreatDoorKmbg
import Derived.Test.YteigfapjiekdnaaGreatDoorKmaa
import Derived.Test.YteigfapjiekdnaaGreatDoorKmae
import Derived.Test.YteigfapjiekdnaaGreatDoorArg
import Derived.Test.YteigfapjiekdnaaGreatDoorCards
import Derived.Test.YteigfapjiekdnaaGreatDoorTie
import Derived.WalkKit
import Derived.ProofKit
import Derived.OpenShut
import Derived.ChangeMaps5
import Derived.ChangeSame
import Derived.SizedLaws
import Derived.Deep.DeepHandedRow
import Derived.Lib.LaidTab
import Derived.LaidHandle
import Derived.Carry
import Derived.Stop.LaidErr
section
/- law15: MiniRules: the walk. -/
namespace Go.Gr
open Go.Proofs.YteigfapjiekdnaaGreatDoor
theorem pow_le4 {n k : Nat} (hn : n ≤ 10) (hk : k ≤ 4) : n ^ k ≤ 10000 :=
  Nat.le_trans (Nat.pow_le_pow_left hn k) (Nat.pow_le_pow_right (n := 10) (by omega) hk)
theorem setOf_same_len {l : List Int} (h : l.Nodup) : (setOf l).length = l.length := by
  have h1 := nodup_le (rise_nodup (setOf_spec l).1) fun x hx => ((setOf_spec l).2 x).1 hx
  have h2 := nodup_le h fun x hx => ((setOf_spec l).2 x).2 hx
  omega
theorem own_le {n : Nat} {p : Pt} (hp : PtOk n p) (h8 : n ≤ 8) : (mapsP p p).length ≤ 40320 := by
  obtain ⟨c, hc⟩ := own_all hp
  have := facN_le n h8
  have hpos := facN_pos n
  cases c with
  | zero => omega
  | succ c => rw [Nat.add_mul, Nat.one_mul] at hc; omega
theorem ownI_len (p : Pt) (X : List (List Int)) : (ownI p X).length = X.length * (mapsP p p).length := flatMap_len fun x _ => by rw [List.length_map]
theorem ownI_step {p : Pt} {X : List (List Int)} {k : Nat} {L : List Int} (h : X[k]? = some L) : ownI p (X.take (k + 1)) = ownI p (X.take k) ++ (mapsP p p).map fun o => mvI o L := by
  rw [List.take_add_one, h]
  unfold ownI
  rw [List.flatMap_append]; simp
def doneB (o : List Int) (i v : Nat) : Bool := (List.range i).any fun j => decide (pl o j = v)
theorem doneB_iff {o : List Int} {i v : Nat} : doneB o i v = true ↔ ∃ j, j < i ∧ pl o j = v := by
  unfold doneB; rw [List.any_eq_true]; simp
theorem doneB_step (o : List Int) (i v : Nat) : doneB o (i + 1) v = (doneB o i v || decide (v = pl o i)) := by
  rw [Bool.eq_iff_iff, Bool.or_eq_true, doneB_iff, doneB_iff, decide_eq_true_eq]
  constructor
  · rintro ⟨j, hj, e⟩
    rcases Nat.lt_or_ge j i with h | h
    · exact .inl ⟨j, h, e⟩
    · rw [show j = i by omega] at e; exact .inr e.symm
  · rintro (⟨j, hj, e⟩ | e)
    · exact ⟨j, by omega, e⟩
    · exact ⟨i, by omega, e.symm⟩
theorem doneB_no {n : Nat} {o : List Int} (ho : IsOrd n o) {i : Nat} (hi : i < n) : doneB o i (pl o i) = false := by
  cases h : doneB o i (pl o i) with
  | false => rfl
  | true =>
    obtain ⟨j, hj, e⟩ := doneB_iff.1 h
    have := pl_inj ho (show j < n by omega) hi e
    omega
theorem doneB_all {n : Nat} {o : List Int} (ho : IsOrd n o) (v : Nat) (hv : v < n) : doneB o n v = true := by
  obtain ⟨j, hj, e⟩ := pl_surj ho hv
  exact doneB_iff.2 ⟨j, hj, e⟩
theorem doneB_zero (o : List Int) (v : Nat) : doneB o 0 v = false := rfl
end Go.Gr
namespace Go.Proofs.YteigfapjiekdnaaGreatDoor
open Go.Sx Go.RowKit Go.Reg Go.Gr

set_option maxRecDepth 100000
def pl_mnz : List (Nat × Plan) := [(9, .leaf [1, 0, 0, 1, 0, 2, 0, 6, 0, 0] [1, 2, 0, 3, 4, 5, 6, 7, 8, 9] [0, 0, 0, 4, 12, 28, 63, 127, 255, 511])]
def G_mnz : List FuncId := [53, 43, 34]
theorem cok_mnz : codeOk Tryz.prog G_mnz pl_mnz (Tryz.f21.body.getD .skip) = true := by kernel_rfl
theorem run_mnz (vs : Array Value) (w : World) : (callFunc 21 vs).run C1.P w = .ok (.enter 21 vs) w := by kernel_rfl
def pl_mtk : List (Nat × Plan) := [(11, .leaf [0, 0, 0, 1, 0, 0, 0, 1, 0, 0, 0, 1, 0, 0, 0, 1, 0, 1, 0, 2, 0, 3] [0, 1, 2, 4, 5, 6, 8, 9, 10, 12, 13, 14, 18, 3, 7, 11, 15, 16, 17, 19, 20, 21] [0, 1, 3, 7, 0, 0, 48, 112, 0, 256, 768, 1792, 0, 0, 12288, 28672, 65280, 130816, 0, 524032, 1048575, 2097151])]
def G_mtk : List FuncId := [66, 54]
theorem cok_mtk : codeOk Tryz.prog G_mtk pl_mtk (Tryz.f24.body.getD .skip) = true := by kernel_rfl
theorem run_mtk (vs : Array Value) (w : World) : (callFunc 24 vs).run C1.P w = .ok (.enter 24 vs) w := by kernel_rfl
def pl_mru : List (Nat × Plan) := [(10, .leaf [1, 1, 2, 2, 0] [0, 1, 2, 3, 4] [0, 0, 2, 7, 15]),
  (24, .split 11 15 (.leaf [1, 0, 1, 0, 0, 0, 1, 0, 0, 0, 1, 2, 0, 0, 0, 6, 3, 0] [1, 3, 4, 5, 0, 2, 6, 7, 8, 9, 10, 11, 12, 13, 14, 15, 16, 17] [0, 0, 2, 0, 8, 0, 32, 96, 248, 510, 1022, 2047, 4095, 8191, 8191, 4095, 49151, 131071]) (.leaf [1, 0, 1, 0, 0, 0, 1, 0, 0, 0, 1, 2, 0, 0, 0, 6, 3, 0] [1, 3, 4, 5, 0, 2, 6, 7, 8, 9, 10, 15, 11, 12, 13, 14, 16, 17] [0, 0, 2, 0, 8, 0, 32, 96, 248, 510, 1022, 34815, 36863, 40959, 40959, 0, 49151, 131071]))]
def G_mru : List FuncId := [9, 10, 18, 19, 20, 22, 23, 15, 14, 28, 12, 29]
theorem cok_mru : codeOk Tryz.prog G_mru pl_mru (Tryz.f4.body.getD .skip) = true := by kernel_rfl
theorem run_mru (vs : Array Value) (w : World) : (callFunc 4 vs).run C1.P w = .ok (.enter 4 vs) w := by kernel_rfl
set_option maxHeartbeats 16000000 in
theorem mrules_pure (labels : List Int) (edges : List Edg) (p : Pt) (b : Int) (hb : 0 ≤ b ∧ b ≤ 255) : Pure C1 4 [dIs labels, dEs edges, dPt p, .int .u8 b] (fun y => y = .bool true) := by
  refine Pure.assume (P := p.labels.length ≤ maxLen ∧ p.edges.length ≤ maxLen) (fun O w us hr => ?_) fun hm => ?_
  · obtain ⟨v0, vs0, rfl, _, h0⟩ := reps_inv hr
    obtain ⟨v1, vs1, rfl, _, h1⟩ := reps_inv h0
    obtain ⟨v, vs, rfl, h1, h2⟩ := reps_inv h1
    obtain ⟨a1, c1, a2, c2, rfl, r1, r2⟩ := rep_pt h1
    have g1 := rep_len r1
    have g2 := rep_len r2
    rw [List.length_map] at g1 g2
    exact ⟨g1, g2⟩
  unfold maxLen at hm
  have hdl : (labels.map dI).length = labels.length := List.length_map _
  have hdp : (p.labels.map dI).length = p.labels.length := List.length_map _
  have hde : (p.edges.map dE).length = p.edges.length := List.length_map _
  have hal := malive_pure
  have hmd := made_pure labels edges
  have hri := rright_pure p (by omega) (by omega)
  refine pure_of c1_ok (pl := pl_mru) (G := G_mru) Tryz.func4 rfl Tryz.ntmps4 run_mru cok_mru (by simp) ?_
  rcases made_case labels edges with e | ⟨G, e, hG, hn, hm, hGe, _, hlen⟩
  · rw [e] at hmd
    cases hp : pErr p with
    | some x =>
      obtain ⟨c, i⟩ := x
      rw [hp] at hri
      (conv => whnf)
      (repeat' ((first | refine ord_ok (by (conv => whnf); (repeat' ((first | refine call_eq rfl hal ?_ | refine call_eq rfl hmd ?_ | refine call_eq rfl hri ?_ | refine ify ?_ | refine ifn ?_ | refine i6 ?_ | refine ati ?_ | refine mst ?_ | refine rmd ?_ | refine ibo (fun _ => ?_) (fun _ => ?_)) <;> conv => whnf)); (all_goals (repeat' (first | exact trivial | exact rfl | refine And.intro ?_ ?_)))) ?_ | refine call_eq rfl hal ?_ | refine call_eq rfl hmd ?_ | refine call_eq rfl hri ?_ | refine ify ?_ | refine ifn ?_ | refine i6 ?_ | refine ati ?_ | refine mst ?_ | refine rmd ?_ | refine ibo (fun _ => ?_) (fun _ => ?_)) <;> conv => whnf))
      exact rfl
    | none =>
      rw [hp] at hri
      (conv => whnf)
      (repeat' ((first | refine ord_ok (by (conv => whnf); (repeat' ((first | refine call_eq rfl hal ?_ | refine call_eq rfl hmd ?_ | refine call_eq rfl hri ?_ | refine ify ?_ | refine ifn ?_ | refine i6 ?_ | refine ati ?_ | refine mst ?_ | refine rmd ?_ | refine ibo (fun _ => ?_) (fun _ => ?_)) <;> conv => whnf)); (all_goals (repeat' (first | exact trivial | exact rfl | refine And.intro ?_ ?_)))) ?_ | refine call_eq rfl hal ?_ | refine call_eq rfl hmd ?_ | refine call_eq rfl hri ?_ | refine ify ?_ | refine ifn ?_ | refine i6 ?_ | refine ati ?_ | refine mst ?_ | refine rmd ?_ | refine ibo (fun _ => ?_) (fun _ => ?_)) <;> conv => whnf))
      exact rfl
  rw [e] at hmd
  cases hp : pErr p with
  | some x =>
    obtain ⟨c, i⟩ := x
    have hc := pErr_code9 hp
    rw [hp] at hri
    by_cases h7 : 7 < labels.length
    · (conv => whnf)
      (repeat' ((first | refine ord_ok (by (conv => whnf); (repeat' ((first | refine call_eq rfl hal ?_ | refine call_eq rfl hmd ?_ | refine call_eq rfl hri ?_ | refine ify ?_ | refine ifn ?_ | refine i6 ?_ | refine ati ?_ | refine mst ?_ | refine rmd ?_ | refine ibo (fun _ => ?_) (fun _ => ?_)) <;> conv => whnf)); (all_goals (repeat' (first | exact trivial | exact rfl | refine And.intro ?_ ?_)))) ?_ | refine call_eq rfl hal ?_ | refine call_eq rfl hmd ?_ | refine call_eq rfl hri ?_ | refine ify ?_ | refine ifn ?_ | refine i6 ?_ | refine ati ?_ | refine mst ?_ | refine rmd ?_ | refine ibo (fun _ => ?_) (fun _ => ?_)) <;> conv => whnf))
      exact rfl
    · (conv => whnf)
      (repeat' ((first | refine ord_ok (by (conv => whnf); (repeat' ((first | refine call_eq rfl hal ?_ | refine call_eq rfl hmd ?_ | refine call_eq rfl hri ?_ | refine ify ?_ | refine ifn ?_ | refine i6 ?_ | refine ati ?_ | refine mst ?_ | refine rmd ?_ | refine ibo (fun _ => ?_) (fun _ => ?_)) <;> conv => whnf)); (all_goals (repeat' (first | exact trivial | exact rfl | refine And.intro ?_ ?_)))) ?_ | refine call_eq rfl hal ?_ | refine call_eq rfl hmd ?_ | refine call_eq rfl hri ?_ | refine ify ?_ | refine ifn ?_ | refine i6 ?_ | refine ati ?_ | refine mst ?_ | refine rmd ?_ | refine ibo (fun _ => ?_) (fun _ => ?_)) <;> conv => whnf))
      exact rfl
  | none =>
  rw [hp] at hri
  by_cases h7 : 7 < labels.length
  · (conv => whnf)
    (repeat' ((first | refine ord_ok (by (conv => whnf); (repeat' ((first | refine call_eq rfl hal ?_ | refine call_eq rfl hmd ?_ | refine call_eq rfl hri ?_ | refine ify ?_ | refine ifn ?_ | refine i6 ?_ | refine ati ?_ | refine mst ?_ | refine rmd ?_ | refine ibo (fun _ => ?_) (fun _ => ?_)) <;> conv => whnf)); (all_goals (repeat' (first | exact trivial | exact rfl | refine And.intro ?_ ?_)))) ?_ | refine call_eq rfl hal ?_ | refine call_eq rfl hmd ?_ | refine call_eq rfl hri ?_ | refine ify ?_ | refine ifn ?_ | refine i6 ?_ | refine ati ?_ | refine mst ?_ | refine rmd ?_ | refine ibo (fun _ => ?_) (fun _ => ?_)) <;> conv => whnf))
    exact rfl
  by_cases h0 : p.labels.length = 0
  · (conv => whnf)
    (repeat' ((first | refine ord_ok (by (conv => whnf); (repeat' ((first | refine call_eq rfl hal ?_ | refine call_eq rfl hmd ?_ | refine call_eq rfl hri ?_ | refine ify ?_ | refine ifn ?_ | refine i6 ?_ | refine ati ?_ | refine mst ?_ | refine rmd ?_ | refine ibo (fun _ => ?_) (fun _ => ?_)) <;> conv => whnf)); (all_goals (repeat' (first | exact trivial | exact rfl | refine And.intro ?_ ?_)))) ?_ | refine call_eq rfl hal ?_ | refine call_eq rfl hmd ?_ | refine call_eq rfl hri ?_ | refine ify ?_ | refine ifn ?_ | refine i6 ?_ | refine ati ?_ | refine mst ?_ | refine rmd ?_ | refine ibo (fun _ => ?_) (fun _ => ?_)) <;> conv => whnf))
    exact rfl
  by_cases h4 : 4 < p.labels.length
  · (conv => whnf)
    (repeat' ((first | refine ord_ok (by (conv => whnf); (repeat' ((first | refine call_eq rfl hal ?_ | refine call_eq rfl hmd ?_ | refine call_eq rfl hri ?_ | refine ify ?_ | refine ifn ?_ | refine i6 ?_ | refine ati ?_ | refine mst ?_ | refine rmd ?_ | refine ibo (fun _ => ?_) (fun _ => ?_)) <;> conv => whnf)); (all_goals (repeat' (first | exact trivial | exact rfl | refine And.intro ?_ ?_)))) ?_ | refine call_eq rfl hal ?_ | refine call_eq rfl hmd ?_ | refine call_eq rfl hri ?_ | refine ify ?_ | refine ifn ?_ | refine i6 ?_ | refine ati ?_ | refine mst ?_ | refine rmd ?_ | refine ibo (fun _ => ?_) (fun _ => ?_)) <;> conv => whnf))
    exact rfl
  have hE := pt_edges hp
  have hpo := pt_of hp
  have hof := lawpt_pure p (by omega)
  have hfo := form_pure p hp (by omega)
  obtain ⟨_, hB, eF, hsrt, _⟩ := form_spec hpo
  have hF : pErr (formP p) = none := by rw [eF]; exact pErr_turn hp hB
  have hFF : formP (formP p) = formP p := by
    have := form_turn hpo hB
    rwa [← eF] at this
  have hFl : (formP p).labels.length = p.labels.length := by rw [eF]; exact turnP_len _ _
  have hFe := pt_edges hF
  have hFo := pt_of hF
  rw [hFl] at hFo
  have hsup : leastL (colsS p.labels.length (imgP G (formP p) false)) = leastL (colsS p.labels.length (imgP G p false)) := by
    have := least_turn (G := G) (w := false) hB hpo
    rwa [← eF] at this
  have hri2 := mright_pure hF (fun e => by rw [e] at hFl; simp at hFl; omega) (by omega) (by omega)
  have his := is_pure hF (by omega)
  rw [decide_eq_true hFF] at his
  have hown := own_pure hF (by omega)
  (conv => whnf)
  (repeat' ((first | refine ord_ok (by (conv => whnf); (repeat' ((first | refine call_eq rfl hal ?_ | refine call_eq rfl hmd ?_ | refine call_eq rfl hri ?_ | refine call_eq rfl hof ?_ | refine call_eq rfl hfo ?_ | refine ify ?_ | refine ifn ?_ | refine i6 ?_ | refine ati ?_ | refine mst ?_ | refine rmd ?_ | refine ibo (fun _ => ?_) (fun _ => ?_)) <;> conv => whnf)); (all_goals (repeat' (first | exact trivial | exact rfl | refine And.intro ?_ ?_)))) ?_ | refine call_eq rfl hal ?_ | refine call_eq rfl hmd ?_ | refine call_eq rfl hri ?_ | refine call_eq rfl hof ?_ | refine call_eq rfl hfo ?_ | refine ify ?_ | refine ifn ?_ | refine i6 ?_ | refine ati ?_ | refine mst ?_ | refine rmd ?_ | refine ibo (fun _ => ?_) (fun _ => ?_)) <;> conv => whnf))
  have hdF0 : ((formP p).labels.map dI).length = (formP p).labels.length := List.length_map _
  generalize formP p = F at hdF0 hF hFF hFl hFe hFo hsup hri2 his hown hfo
  refine call_inline 200 [(15, .own 15), (14, .own 14), (10, .own 10), (9, .d (dG G)), (6, .own 6), (3, .d (.int .u8 b))] c1_ok (pl := pl_mnz) (G := G_mnz) Tryz.func21 rfl Tryz.ntmps21 run_mnz cok_mnz (Nat.le_of_ble_eq_true rfl) rfl ⟨rfl, rfl, rfl, rfl, rfl, rfl, trivial⟩ rfl ?_
  intro us
  have hFne : F.labels ≠ [] := fun e => by rw [e] at hFl; simp at hFl; omega
  have hto := lawto_pure F (by omega)
  have hr12 := rimages_pure G F false hn (by omega) (by omega) (by omega) (by omega)
  rw [← images_same hG hF] at hr12
  have hr12 : Pure C1 22 [dM G.labels G.edges, dPt F, .bool false] (fun y => y = dLL (imgP G F false)) := hr12
  have hXc : (imgP G F false).length ≤ 10000 := Nat.le_trans (imgs_len _ _) (pow_le4 hn (by omega))
  have hXI : ∀ L ∈ imgP G F false, L.length = p.labels.length ∧ L.Nodup := fun L hL => by
    have := mem_imgP.1 hL
    exact ⟨this.len.trans hFl, this.nodup⟩
  have hYX := ownI_same (G := G) (w := false) hFo
  have hal2 := all_pure G hG hF hFne hn (by omega) (by omega)
  have hs1 := support_pure G hG hp (fun e => by rw [e] at h0; exact h0 rfl) hn (by omega) (by omega)
  have hs2 := support_pure G hG hF hFne hn (by omega) (by omega)
  have hOl := own_le hFo (by omega)
  have hOo : ∀ o ∈ mapsP F F, IsOrd p.labels.length o := fun o ho => own_ord hFo ho
  have hst : List.replicate p.labels.length Da.nils = (colsS p.labels.length (ownI F ((imgP G F false).take 0))).map dN := by
    refine List.ext_getElem? fun v => ?_
    rw [List.getElem?_map]
    by_cases hv : v < p.labels.length
    · rw [colsS_at hv, List.take_zero, show ownI F [] = [] from rfl, colS_nil, List.getElem?_replicate, if_pos hv]; rfl
    · rw [List.getElem?_eq_none (by rw [List.length_replicate]; omega), List.getElem?_eq_none (by rw [colsS_len]; omega)]; rfl
  generalize hX : imgP G F false = X at hr12 hXc hXI hYX hst
  have hdX : (X.map dIs).length = X.length := List.length_map _
  (conv => whnf)
  (repeat' ((first | refine ord_ok (by (conv => whnf); (repeat' ((first | refine call_eq rfl hri2 ?_ | refine call_eq rfl his ?_ | refine call_eq rfl hown ?_ | refine mk_ok p.labels.length (by omega) (by omega) (by omega) ?_ | refine same_ok ?_ | refine call_eq rfl hto ?_ | refine call_eq rfl hr12 ?_ | refine ify ?_ | refine ifn ?_ | refine i6 ?_ | refine ati ?_ | refine mst ?_ | refine rmd ?_ | refine ibo (fun _ => ?_) (fun _ => ?_)) <;> conv => whnf)); (all_goals (repeat' (first | exact trivial | exact rfl | refine And.intro ?_ ?_)))) ?_ | refine call_eq rfl hri2 ?_ | refine call_eq rfl his ?_ | refine call_eq rfl hown ?_ | refine mk_ok p.labels.length (by omega) (by omega) (by omega) ?_ | refine same_ok ?_ | refine call_eq rfl hto ?_ | refine call_eq rfl hr12 ?_ | refine ify ?_ | refine ifn ?_ | refine i6 ?_ | refine ati ?_ | refine mst ?_ | refine rmd ?_ | refine ibo (fun _ => ?_) (fun _ => ?_)) <;> conv => whnf))
  obtain ⟨O, hO⟩ : ∃ O, mapsP F F = O := ⟨_, rfl⟩
  rw [hO] at hOl hOo
  simp only [hO]
  obtain ⟨n, hnn⟩ : ∃ n, p.labels.length = n := ⟨_, rfl⟩
  simp only [hnn] at hst hXI hOo
  simp only [hnn]
  refine loop_lo (ι := Nat) (fun k => k ≤ X.length) (fun k => [(21, .d (.int .i64 k)), (20, .d (dLL X)), (19, .d .nili), (18, .own 31), (15, .own 15), (14, .own 14), (9, .d (dG G)), (6, .own 6), (3, .d (.int .u8 b))]) (fun k => [(6, .cells 47 [.d (dIs p.labels), .d (dEs p.edges)]), (14, .cells 38 [.d (dIs p.labels), .d (dEs p.edges)]), (15, .cells 38 [.d (dIs F.labels), .d (dEs F.edges)]), (31, .cells 110 [.d (dPt F), .d (.list 1 (O.map dInts)), .own 29]), (29, .slice 22 1 ((colsS n (ownI F (X.take k))).map dN))]) (fun k => X.length - k) 0 (fun _ => rfl) (Nat.zero_le _) (.refl _ _) ⟨rfl, rfl, rfl, rfl, rfl, rfl, rfl, rfl, rfl, trivial⟩ ⟨rfl, rfl, rfl, rfl, slice_is hst, trivial⟩ ?_
  intro k hk
  refine sxCode_sound c1_ok (G := G_mru) (pl := pl_mru) _ _ _ _ (by kernel_rfl) ?_
  by_cases hkl : k < X.length
  · have hx := List.getElem?_eq_getElem hkl
    have hxm := List.getElem_mem hkl
    generalize X[k] = L at hx hxm
    obtain ⟨hLn, hLd⟩ := hXI L hxm
    have hdL : (L.map dI).length = L.length := List.length_map _
    have hxd : (X.map dIs)[k]? = some (dIs L) := by rw [List.getElem?_map, hx]; rfl
    have hso := of_pure L (by omega)
    have hsl : ((setOf L).map dI).length = L.length := by rw [List.length_map, setOf_same_len hLd]
    have hstep := ownI_step (p := F) hx
    rw [hO] at hstep
    have hYl : (ownI F (X.take k)).length ≤ 10000 * 40320 := by
      rw [ownI_len, hO]
      exact Nat.mul_le_mul (by rw [List.length_take]; omega) hOl
    have hcn : ((colsS n (ownI F (X.take k))).map dN).length = n := by rw [List.length_map, colsS_len]
    have hdO : (O.map dInts).length = O.length := List.length_map _
    (conv => whnf)
    (repeat' ((first | refine ord_ok (by (conv => whnf); (repeat' ((first | refine at_da hxd rfl ?_ | refine ify ?_ | refine ifn ?_ | refine i6 ?_ | refine ati ?_ | refine mst ?_ | refine rmd ?_ | refine ibo (fun _ => ?_) (fun _ => ?_)) <;> conv => whnf)); (all_goals (repeat' (first | exact trivial | exact rfl | refine And.intro ?_ ?_)))) ?_ | refine at_da hxd rfl ?_ | refine ify ?_ | refine ifn ?_ | refine i6 ?_ | refine ati ?_ | refine mst ?_ | refine rmd ?_ | refine ibo (fun _ => ?_) (fun _ => ?_)) <;> conv => whnf))
    refine call_inline 200 [(21, .d (.int .i64 k)), (20, .d (dLL X)), (19, .d .nili), (18, .own 31), (15, .own 15), (14, .own 14), (9, .d (dG G)), (6, .own 6), (3, .d (.int .u8 b))] c1_ok (pl := pl_mtk) (G := G_mtk) Tryz.func24 rfl Tryz.ntmps24 run_mtk cok_mtk (Nat.le_of_ble_eq_true rfl) rfl ⟨rfl, rfl, rfl, rfl, rfl, rfl, rfl, rfl, rfl, trivial⟩ rfl ?_
    intro us2
    (conv => whnf)
    (repeat' ((first | refine ord_ok (by (conv => whnf); (repeat' ((first | refine call_eq rfl hso ?_ | refine ify ?_ | refine ifn ?_ | refine i6 ?_ | refine ati ?_ | refine mst ?_ | refine rmd ?_ | refine ibo (fun _ => ?_) (fun _ => ?_)) <;> conv => whnf)); (all_goals (repeat' (first | exact trivial | exact rfl | refine And.intro ?_ ?_)))) ?_ | refine call_eq rfl hso ?_ | refine ify ?_ | refine ifn ?_ | refine i6 ?_ | refine ati ?_ | refine mst ?_ | refine rmd ?_ | refine ibo (fun _ => ?_) (fun _ => ?_)) <;> conv => whnf))
    refine loop_lo (ι := Nat) (fun a => a ≤ O.length) (fun a => [(36, .d (.int .i64 a)), (35, .d (.int .i64 O.length)), (34, .d (.list 1 (O.map dInts))), (1, .d (dIs L)), (0, .own 31)]) (fun a => [(6, .cells 47 [.d (dIs p.labels), .d (dEs p.edges)]), (14, .cells 38 [.d (dIs p.labels), .d (dEs p.edges)]), (15, .cells 38 [.d (dIs F.labels), .d (dEs F.edges)]), (31, .cells 110 [.d (dPt F), .d (.list 1 (O.map dInts)), .own 29]), (200, .ghost us2 [.d (.int .i64 k), .d (dLL X), .d .nili, .own 31, .own 15, .own 14, .d (dG G), .own 6, .d (.int .u8 b)]), (29, .slice 22 1 ((colsS n (ownI F (X.take k) ++ (O.take a).map fun o => mvI o L)).map dN))]) (fun a => O.length - a) 0 (fun _ => rfl) (Nat.zero_le _) (.refl _ _) ⟨rfl, by rw [← hdO]; rfl, rfl, rfl, rfl, trivial⟩ ⟨rfl, rfl, rfl, rfl, rfl, slice_is (by rw [List.take_zero, List.map_nil, List.append_nil]), trivial⟩ ?_
    intro a ha
    refine sxCode_sound c1_ok (G := G_mtk) (pl := pl_mtk) _ _ _ _ (by kernel_rfl) ?_
    by_cases hal' : a < O.length
    · have ho := List.getElem?_eq_getElem hal'
      have hom := hOo _ (List.getElem_mem hal')
      generalize O[a] = o at ho hom
      have hod : (O.map dInts)[a]? = some (dIs o) := by rw [List.getElem?_map, ho]; rfl
      have hta : (O.take (a + 1)).map (fun o => mvI o L) = (O.take a).map (fun o => mvI o L) ++ [mvI o L] := by rw [List.take_add_one, ho, List.map_append]; rfl
      have hol : o.length = n := hom.1
      have hdo : (o.map dI).length = o.length := List.length_map _
      have hYa : (ownI F (X.take k) ++ (O.take a).map fun o => mvI o L).length ≤ 900000000 := by
        rw [List.length_append, List.length_map, List.length_take]; omega
      have hYn : (ownI F (X.take k) ++ (O.take (a + 1)).map fun o => mvI o L) = (ownI F (X.take k) ++ (O.take a).map fun o => mvI o L) ++ [mvI o L] := by rw [hta, List.append_assoc]
      generalize (ownI F (X.take k) ++ (O.take a).map fun o => mvI o L) = Y at hYa hYn ⊢
      (conv => whnf)
      (repeat' ((first | refine ord_ok (by (conv => whnf); (repeat' ((first | refine at_da hod rfl ?_ | refine ify ?_ | refine ifn ?_ | refine i6 ?_ | refine ati ?_ | refine mst ?_ | refine rmd ?_ | refine ibo (fun _ => ?_) (fun _ => ?_)) <;> conv => whnf)); (all_goals (repeat' (first | exact trivial | exact rfl | refine And.intro ?_ ?_)))) ?_ | refine at_da hod rfl ?_ | refine ify ?_ | refine ifn ?_ | refine i6 ?_ | refine ati ?_ | refine mst ?_ | refine rmd ?_ | refine ibo (fun _ => ?_) (fun _ => ?_)) <;> conv => whnf))
      refine loop_lo (ι := Nat) (fun i => i ≤ n) (fun i => [(42, .d (.int .i64 i)), (41, .d (.int .i64 L.length)), (40, .d (dIs L)), (6, .d (dIs o)), (36, .d (.int .i64 a)), (35, .d (.int .i64 O.length)), (34, .d (.list 1 (O.map dInts))), (1, .d (dIs L)), (0, .own 31)]) (fun i => [(6, .cells 47 [.d (dIs p.labels), .d (dEs p.edges)]), (14, .cells 38 [.d (dIs p.labels), .d (dEs p.edges)]), (15, .cells 38 [.d (dIs F.labels), .d (dEs F.edges)]), (31, .cells 110 [.d (dPt F), .d (.list 1 (O.map dInts)), .own 29]), (200, .ghost us2 [.d (.int .i64 k), .d (dLL X), .d .nili, .own 31, .own 15, .own 14, .d (dG G), .own 6, .d (.int .u8 b)]), (29, .slice 22 1 ((midS n Y (mvI o L) (doneB o i)).map dN))]) (fun i => n - i) 0 (fun _ => rfl) (Nat.zero_le _) (.refl _ _) ⟨rfl, by rw [← hdL]; rfl, rfl, rfl, rfl, rfl, rfl, rfl, rfl, trivial⟩ ⟨rfl, rfl, rfl, rfl, rfl, slice_is (by rw [midS_start _ _ _ (fun v _ => doneB_zero o v)]), trivial⟩ ?_
      intro i hi
      refine sxCode_sound c1_ok (G := G_mtk) (pl := pl_mtk) _ _ _ _ (by kernel_rfl) ?_
      by_cases hil : i < n
      · have hy := List.getElem?_eq_getElem (l := L) (i := i) (by omega)
        generalize L[i]'(by omega) = v at hy
        have hyd : (L.map dI)[i]? = some (.int .i64 v) := by rw [List.getElem?_map, hy]; rfl
        have hpi := pl_at hom hil
        have hpl := pl_lt hom hil
        have hpd : (o.map dI)[i]? = some (.int .i64 (pl o i : Nat)) := by rw [List.getElem?_map, hpi]; rfl
        have hmv := mvI_at hom hLn hil
        rw [hy] at hmv
        have hno := doneB_no hom hil
        have hstp := congrArg (List.map dN) (midS_step (k := n) (Y := Y) (done := doneB o i) (done' := doneB o (i + 1)) hmv (fun u _ => doneB_step o i u))
        rw [List.map_set, dN_ne (addS_ne _ _)] at hstp
        have hud : ((midS n Y (mvI o L) (doneB o i)).map dN)[pl o i]? = some (dN (colS Y (pl o i))) := by
          rw [List.getElem?_map, midS_at hpl, hno]; rfl
        have hul : ((midS n Y (mvI o L) (doneB o i)).map dN).length = n := by rw [List.length_map, midS_len]
        have had := sadd_nil (colS Y (pl o i)) (colS_rise _ _) (by have := colS_len Y (pl o i); omega) v
        generalize (midS n Y (mvI o L) (doneB o i)).map dN = U at hstp hud hul ⊢
        generalize pl o i = w at hstp hud had hpd hpl
        generalize hX2 : dN (colS Y w) = xd at hud had
        have hxx := dN_or (colS Y w)
        rw [hX2] at hxx
        rcases hxx with rfl | rfl <;> (conv => whnf) <;> (repeat' ((first | refine ord_ok (by (conv => whnf); (repeat' ((first | refine at_da hyd rfl ?_ | refine at_da hpd rfl ?_ | refine el_at (i := w) rfl (by omega) ?_ | refine el_is hud ?_ | refine call_eq rfl had ?_ | refine ify ?_ | refine ifn ?_ | refine i6 ?_ | refine ati ?_ | refine mst ?_ | refine rmd ?_ | refine ibo (fun _ => ?_) (fun _ => ?_)) <;> conv => whnf)); (all_goals (repeat' (first | exact trivial | exact rfl | refine And.intro ?_ ?_)))) ?_ | refine at_da hyd rfl ?_ | refine at_da hpd rfl ?_ | refine el_at (i := w) rfl (by omega) ?_ | refine el_is hud ?_ | refine call_eq rfl had ?_ | refine ify ?_ | refine ifn ?_ | refine i6 ?_ | refine ati ?_ | refine mst ?_ | refine rmd ?_ | refine ibo (fun _ => ?_) (fun _ => ?_)) <;> conv => whnf))
        all_goals exact ⟨i + 1, _, _, hil, .refl _ _, ⟨rfl, rfl, rfl, rfl, rfl, rfl, rfl, rfl, rfl, trivial⟩, ⟨rfl, rfl, rfl, rfl, rfl, slice_is hstp, trivial⟩, by omega⟩
      · have hie : i = n := by omega
        subst hie
        rw [midS_end _ _ _ (fun v hv => doneB_all hom v hv)]
        ((conv => whnf); repeat' ((first | refine odw ?_ | refine ify ?_ | refine ifn ?_ | refine i6 ?_ | refine ati ?_ | refine mst ?_ | refine rmd ?_ | refine ibo (fun _ => ?_) (fun _ => ?_)) <;> conv => whnf))
        exact ⟨a + 1, _, _, hal', .refl _ _, ⟨rfl, rfl, rfl, rfl, rfl, trivial⟩, ⟨rfl, rfl, rfl, rfl, rfl, slice_is (by rw [hYn]), trivial⟩, by omega⟩
    · have hOe : O.take a = O := List.take_of_length_le (by omega)
      rw [hOe]
      (conv => whnf)
      (repeat' ((first | refine ord_ok (by (conv => whnf); (repeat' ((first | refine same_ok ?_ | refine ify ?_ | refine ifn ?_ | refine i6 ?_ | refine ati ?_ | refine mst ?_ | refine rmd ?_ | refine ibo (fun _ => ?_) (fun _ => ?_)) <;> conv => whnf)); (all_goals (repeat' (first | exact trivial | exact rfl | refine And.intro ?_ ?_)))) ?_ | refine same_ok ?_ | refine ify ?_ | refine ifn ?_ | refine i6 ?_ | refine ati ?_ | refine mst ?_ | refine rmd ?_ | refine ibo (fun _ => ?_) (fun _ => ?_)) <;> conv => whnf))
      exact ⟨k + 1, _, _, hkl, .refl _ _, ⟨rfl, rfl, rfl, rfl, rfl, rfl, rfl, rfl, rfl, trivial⟩, ⟨rfl, rfl, rfl, rfl, slice_is (by rw [hstep]), trivial⟩, by omega⟩
  · rw [List.take_of_length_le (show X.length ≤ k by omega), colsS_same hYX]
    rw [hnn] at hFl hFo hpo hsup
    rw [hFl, hX] at hal2
    rw [hX] at hsup
    have eN : supP G F = supP G p := by unfold supP; rw [hFl, hnn, hX, hsup]
    have eM : leastL (colsS n X) = supP G p := by unfold supP; rw [hnn, hsup]
    rw [eN] at hs2
    have hcl : ∀ s ∈ colsS n X, s.length ≤ 1000000000 := fun s hs => by
      obtain ⟨i, _, rfl⟩ := mem_colsS.1 hs
      have := colS_len X i
      omega
    have hcne := colsS_ne (show 0 < n by omega) X
    have hset := dsets_pure F O (colsS n X) hcne (by rw [colsS_len]; omega) hcl
    have hdsu := dsupport_pure F O (colsS n X) hcne (by rw [colsS_len]; omega) hcl
    rw [eM] at hdsu
    have hsam := same15_pure (colsS n X) (by rw [colsS_len]; omega)
    have hpne : p.labels ≠ [] := fun e => by rw [e] at h0; exact h0 rfl
    have him : Pure C1 28 [dG G, dPt p, .bool false] (fun y => y = dLL (imgP G p false)) := by
      have := qimages_pure G hG p false hn (by omega) (by omega)
      rw [show imagesY G p false = dLL (imgP G p false) by unfold imagesY; rw [if_pos ⟨hp, hpne⟩]; rfl] at this
      exact this
    have hzero : supP G p = 0 ↔ imgP G p false = [] := by unfold supP; rw [hnn]; exact least_zero hpo (by omega)
    have hle1 : supP G p ≤ G.labels.length := by unfold supP; rw [hnn]; exact least_le_len hpo (by omega)
    have hls : ∀ k e, p.edges[k]? = some e → Pure C1 29 [dPt p, dE e] (fun y => y = .tuple [dPt (lessP p k), .nili]) ∧ Pure C1 14 [dG G, dPt (lessP p k)] (fun y => y = .tuple [.int .i64 (supP G (lessP p k) : Nat), .nili]) ∧ supP G p ≤ supP G (lessP p k) ∧ supP G (lessP p k) ≤ G.labels.length := by
      intro k e he
      have hpe := pErr_less hp (by omega) k
      have hEl := pt_edges hpe
      refine ⟨ptless_pure hp he, support_pure G hG hpe hpne hn (by show p.labels.length ≤ 8; omega) (by omega), ?_, ?_⟩
      · unfold supP
        exact least_less k
      · unfold supP
        show leastL (colsS p.labels.length _) ≤ _
        rw [hnn]
        exact least_le_len (less_ok hpo k) (by omega)
    have hln := len_pure G
    have lI : ((imgP G p false).map dIs).length = (imgP G p false).length := List.length_map _
    have hiff : (((supP G p : Nat) : Int) = 0 ↔ (((imgP G p false).map dIs).length : Int) = 0) := by
      rw [lI]
      constructor
      · intro h
        rw [hzero.1 (by omega)]; rfl
      · intro h
        rw [hzero.2 (List.eq_nil_of_length_eq_zero (by omega))]; rfl
    generalize supP G p = N at hs1 hs2 hdsu hle1 hls hiff
    generalize imgP G p false = I at him hiff
    by_cases hE0 : p.edges.length = 0
    · (conv => whnf)
      (repeat' ((first | refine ord_ok (by (conv => whnf); (repeat' ((first | refine call_frz 29 rfl ?_ | refine call_frzR 31 rfl rfl ?_ | refine call_eq rfl hal2 ?_ | refine call_eq rfl hs1 ?_ | refine call_eq rfl hs2 ?_ | refine call_eq (xs := [dD F O (colsS n X)]) rfl hset ?_ | refine call_eq rfl hsam ?_ | refine call_eq (xs := [dD F O (colsS n X)]) rfl hdsu ?_ | refine call_eq rfl him ?_ | refine if_no (fun h => h hiff) ?_ | refine call_eq rfl hln ?_ | refine ify ?_ | refine ifn ?_ | refine i6 ?_ | refine ati ?_ | refine mst ?_ | refine rmd ?_ | refine ibo (fun _ => ?_) (fun _ => ?_)) <;> conv => whnf)); (all_goals (repeat' (first | exact trivial | exact rfl | refine And.intro ?_ ?_)))) ?_ | refine call_frz 29 rfl ?_ | refine call_frzR 31 rfl rfl ?_ | refine call_eq rfl hal2 ?_ | refine call_eq rfl hs1 ?_ | refine call_eq rfl hs2 ?_ | refine call_eq (xs := [dD F O (colsS n X)]) rfl hset ?_ | refine call_eq rfl hsam ?_ | refine call_eq (xs := [dD F O (colsS n X)]) rfl hdsu ?_ | refine call_eq rfl him ?_ | refine if_no (fun h => h hiff) ?_ | refine call_eq rfl hln ?_ | refine ify ?_ | refine ifn ?_ | refine i6 ?_ | refine ati ?_ | refine mst ?_ | refine rmd ?_ | refine ibo (fun _ => ?_) (fun _ => ?_)) <;> conv => whnf))
      exact congrArg Da.bool (decide_eq_true (by omega))
    · obtain ⟨s, hs⟩ := Int.eq_ofNat_of_zero_le hb.1
      subst hs
      have hsl := Nat.mod_lt s (show 0 < p.edges.length by omega)
      have hsm : (s : Int).tmod ((p.edges.map dE).length : Int) = ((s % p.edges.length : Nat) : Int) := by rw [hde, Int.tmod_eq_emod_of_nonneg (by omega), ← Int.natCast_emod]
      generalize s % p.edges.length = j at hsl hsm
      have he := List.getElem?_eq_getElem hsl
      generalize p.edges[j] = x at he
      have hed : (p.edges.map dE)[j]? = some (.agg [.int .i64 x.a, .int .i64 x.b]) := by rw [List.getElem?_map, he]; rfl
      obtain ⟨w1, w2, w3, w4⟩ := hls j x he
      generalize supP G (lessP p j) = W at w2 w3 w4
      (conv => whnf)
      (repeat' ((first | refine ord_ok (by (conv => whnf); (repeat' ((first | refine call_frz 29 rfl ?_ | refine call_frzR 31 rfl rfl ?_ | refine call_eq rfl hal2 ?_ | refine call_eq rfl hs1 ?_ | refine call_eq rfl hs2 ?_ | refine call_eq (xs := [dD F O (colsS n X)]) rfl hset ?_ | refine call_eq rfl hsam ?_ | refine call_eq (xs := [dD F O (colsS n X)]) rfl hdsu ?_ | refine call_eq rfl him ?_ | refine if_no (fun h => h hiff) ?_ | refine call_eq rfl hln ?_ | refine at_da hed hsm ?_ | refine call_eq rfl w1 ?_ | refine call_eq rfl w2 ?_ | refine ify ?_ | refine ifn ?_ | refine i6 ?_ | refine ati ?_ | refine mst ?_ | refine rmd ?_ | refine ibo (fun _ => ?_) (fun _ => ?_)) <;> conv => whnf)); (all_goals (repeat' (first | exact trivial | exact rfl | refine And.intro ?_ ?_)))) ?_ | refine call_frz 29 rfl ?_ | refine call_frzR 31 rfl rfl ?_ | refine call_eq rfl hal2 ?_ | refine call_eq rfl hs1 ?_ | refine call_eq rfl hs2 ?_ | refine call_eq (xs := [dD F O (colsS n X)]) rfl hset ?_ | refine call_eq rfl hsam ?_ | refine call_eq (xs := [dD F O (colsS n X)]) rfl hdsu ?_ | refine call_eq rfl him ?_ | refine if_no (fun h => h hiff) ?_ | refine call_eq rfl hln ?_ | refine at_da hed hsm ?_ | refine call_eq rfl w1 ?_ | refine call_eq rfl w2 ?_ | refine ify ?_ | refine ifn ?_ | refine i6 ?_ | refine ati ?_ | refine mst ?_ | refine rmd ?_ | refine ibo (fun _ => ?_) (fun _ => ?_)) <;> conv => whnf))
      exact congrArg Da.bool (decide_eq_true (by omega))
end Go.Proofs.YteigfapjiekdnaaGreatDoor
end

section
/- What the rows give (mini: one variable is laid): the variable, the arguments' elements, a world for the witness. -/
namespace Go.Reg
open Go Go.RowKit Go.Deep Go.WideShapes
section
variable {α H : Type}
theorem argSl_shape {P : Program} {k : Nat} {enc : α → List Value} {e' : TypeId × Value → H} {w : World} {base : Nat} {spare : Nat → Bool} {held : Bool} {t e : TypeId} {v : Value} {d : DataW H} {ps : List MemPlace} (Q : α → Prop)
    (ht : P.underlying t = some (.slice e)) (hc : P.cellsOf e = k) (hk : 0 < k) (he : ∀ x, (enc x).length = k)
    (hel : ∀ n cs y, DataW.trod e' P w base spare held n e cs = some y → ∃ x, cs = enc x ∧ Q x)
    (hsh : ∃ a n c, v = .slice a n c) (h : DataW.Trod e' P w base spare held t v d ps) : ∃ l, ArgSl k enc w v l ∧ ∀ x ∈ l, Q x := by
  obtain ⟨a0, len0, cap0, rfl⟩ := hsh
  obtain ⟨fuel, hf⟩ := h
  rcases open_slice ht hf with ⟨h1, _⟩ | ⟨a, len, cap, m, n, D, Pl, h1, hb, hl, hm, hmm, _, hx⟩
  · simp [Value.cells] at h1
    obtain ⟨rfl, rfl, rfl⟩ := h1
    exact ⟨[], ⟨none, 0, rfl, by simp, fun i x hi => by simp at hi⟩, by simp⟩
  · simp [Value.cells] at h1
    obtain ⟨rfl, rfl, rfl⟩ := h1
    have hlm : len0 ≤ m := by rw [hmm]; split <;> omega
    obtain ⟨l, hll, hq⟩ := list_of (Q := fun i x => Q x ∧ w.cells? base (a.add (i * k)) k = some (enc x)) (n := len0) (fun i hi => by
      obtain ⟨cs', h1, h2⟩ := hx i (by omega)
      obtain ⟨x, rfl, hQ⟩ := hel _ _ _ h2
      rw [hc] at h1
      exact ⟨x, hQ, h1⟩)
    refine ⟨l, ⟨some a, cap0, by rw [hll], by omega, fun i x hi => ?_⟩, fun x hx => ?_⟩
    · have h2 := (hq i x hi).2
      obtain ⟨_, _, hcell⟩ := World.cells?_some h2
      have h0 := hcell 0 hk
      obtain ⟨b, o, sp⟩ := a
      have hi0 : 0 < l.length := by have := (List.getElem?_eq_some_iff.1 hi).1; omega
      have hz := (hq 0 l[0] (by simp [hi0])).2
      obtain ⟨_, _, hcell0⟩ := World.cells?_some hz
      have hsp : sp = none := by
        have h00 := hcell0 0 hk
        rw [Nat.zero_mul, add_add] at h00
        have hsome : (w.cell? ⟨b, o, sp⟩).isSome = true := by
          simp only [Addr.add, Nat.add_zero, if_true] at h00
          rw [h00]
          simp [he, hk]
        cases sp with
        | none => rfl
        | some s =>
          exfalso
          unfold World.cell? at hsome
          simp at hsome
          split at hsome <;> simp at hsome
      subst hsp
      refine ⟨b, o, rfl, fun j u hj => ?_⟩
      have hjk : j < k := by have := (List.getElem?_eq_some_iff.1 hj).1; rw [he] at this; exact this
      have := hcell j hjk
      rw [add_add, hj] at this
      by_cases hz : i * k + j = 0
      · rw [hz] at this
        simp only [Addr.add, if_true] at this
        rw [show o + i * k + j = o by omega]
        exact this
      · simp only [Addr.add, hz, if_false] at this
        rw [show o + i * k + j = o + (i * k + j) by omega]
        exact this
    · obtain ⟨i, hi⟩ := List.getElem?_of_mem hx
      exact (hq i x hi).1
/-- a slice's shape, by its cells -/
theorem trod_slice_shape {P : Program} {e' : TypeId × Value → H} {w : World} {base : Nat} {spare : Nat → Bool} {held : Bool} {t e : TypeId} {fuel : Nat} {cs : List Value} {y : DataW H × List MemPlace} (ht : P.underlying t = some (.slice e)) (h : DataW.trod e' P w base spare held fuel t cs = some y) : ∃ a n c, cs = [.slice a n c] ∧ n ≤ c ∧ c ≤ maxLen := by
  rcases open_slice ht h with ⟨h1, _⟩ | ⟨a, len, cap, m, k, D, Pl, h1, _, h2, h3, _, _, _⟩
  · exact ⟨none, 0, 0, h1, Nat.le_refl _, by unfold maxLen; omega⟩
  · exact ⟨some a, len, cap, h1, h2, h3⟩
end
end Go.Reg
namespace Go.Proofs.YteigfapjiekdnaaGreatDoor
open Go.ChangeShapes Go.WideShapes Go.ChangeAt Go.RowKit Go.Reg Go.Gr Go.Sx Go.ChangeMaps

theorem own : ownKnob Tryz.prog.godebug = none := by kernel_rfl
theorem laidOut : laidOutB Tryz.prog = true := by kernel_rfl
theorem gEt : Tryz.prog.globalNamed "errors.errorType" = some 0 := by kernel_rfl
theorem gRt : (Tryz.prog.cutTypes.find? (·.1 == "internal/reflectlite.rtype")).map (·.2) = some 234 := by kernel_rfl
theorem oneRow : ((List.range Tryz.prog.types.size).filter fun t => Tryz.prog.rowNamed t [101, 114, 114, 111, 114]) = [33] := by kernel_rfl
/-- all that is laid -/
abbrev laidAll : List (String × DataW Unit) := Rows.miniLabelsRow.laid
theorem laid_parts {W : World} (h : laidMetH Tryz.prog laidAll W) : laidMet Tryz.prog [] W ∧ handlesMet Tryz.prog [("errors.errorType", Rows.laid_errors_errorType)] W := h

theorem var_exact {P : Program} {w : World} {name : String} {g : Nat} {cs : Array Value} (h : w.var? P name = some cs) (hg : P.globalNamed name = some g) : ∃ t fr, w.heap[g]? = some (.cells cs t fr) := by
  unfold World.var? at h
  rw [hg, Option.bind_some] at h
  cases hh : w.heap[g]? with
  | none => rw [hh] at h; cases h
  | some o =>
    rw [hh] at h
    cases o with
    | cells cs' t fr => simp only [Option.some.injEq] at h; subst h; exact ⟨t, fr, rfl⟩
    | _ => cases h
theorem errV_of_laid {W : World} (h : laidMetH Tryz.prog laidAll W) : ∃ t fr, W.heap[0]? = some (.cells #[.iface 234 (.agg #[.pointer (some ⟨5, 33, none⟩)])] t fr) := by
  obtain ⟨name, u, ty, e1, e2, e3, e4, e5⟩ := (laid_parts h).2 _ (List.mem_singleton.2 rfl)
  have en : name = [101, 114, 114, 111, 114] := (Option.some.inj e1).symm
  subst en
  obtain rfl := Option.some.inj (gRt.symm.trans e2)
  have hm : ty ∈ (List.range Tryz.prog.types.size).filter fun t => Tryz.prog.rowNamed t [101, 114, 114, 111, 114] := List.mem_filter.2 ⟨List.mem_range.2 e3, e4⟩
  rw [oneRow] at hm
  obtain rfl := List.mem_singleton.1 hm
  have hh : typeHandle Tryz.prog 33 = .pointer (some ⟨5, 33, none⟩) := by kernel_rfl
  rw [hh] at e5
  exact var_exact e5 gEt
theorem grep_of {W : World} {g : Nat} {cs : Array Value} {t : TypeId} {fr : Nat × Nat} {d : Da} (h : W.heap[g]? = some (.cells cs t fr)) (hr : Sx.RepC [] W d cs.toList) (hs : cs.size = Sx.gsz d) : Sx.GRep [] W (g, d) := by
  refine ⟨⟨[_], ?_, rfl⟩, by simp, cs, t, fr, h, hs⟩
  simp only [Sx.RepC]
  refine ⟨g, 0, cs.toList, rfl, by simp, (Array.getElem?_eq_some_iff.1 h).1, hr, fun j u hj => ?_⟩
  rw [Lib.cell_of_heap h, Nat.zero_add]
  simpa using hj
/-- the variables, as the walk knows them -/
theorem globs_of {W : World} (h : laidMetH Tryz.prog laidAll W) : Sx.Glob C1 [] W := by
  obtain ⟨t1, f1, e1⟩ := errV_of_laid h
  intro g hg
  rw [List.mem_singleton.1 hg]
  exact grep_of e1 (by simp only [Sx.RepC]) rfl

def eI : Sx.Enc Int := ⟨fun n => [.int .i64 n], dI, 1, fun _ => rfl, fun n u hu => by simp at hu; rw [hu]; rfl, fun O w n => by simp [dI, Sx.RepC]⟩
def eE : Sx.Enc Edg := ⟨fun e => [.int .i64 e.a, .int .i64 e.b], dE, 2, fun _ => rfl, fun n u hu => by simp at hu; rcases hu with rfl | rfl <;> rfl, fun O w n => by simp [dE, Sx.RepC, Sx.RepCs]⟩
set_option maxRecDepth 100000 in
theorem int_el {H : Type} {e' : TypeId × Value → H} {w : World} {base : Nat} {spare : Nat → Bool} {held : Bool} (n : Nat) (cs : List Value) (y : DataW H × List MemPlace)
    (h : DataW.trod e' Tryz.prog w base spare held n 3 cs = some y) : ∃ x : Int, cs = eI.enc x ∧ True := by
  obtain ⟨m, h0, _⟩ := DataW.trod_int Tryz.underlying3 h
  exact ⟨m, h0, trivial⟩
set_option maxRecDepth 100000 in
theorem edge_el {H : Type} {e' : TypeId × Value → H} {w : World} {base : Nat} {spare : Nat → Bool} {held : Bool} (n : Nat) (cs : List Value) (y : DataW H × List MemPlace)
    (h : DataW.trod e' Tryz.prog w base spare held n 86 cs = some y) : ∃ x : Edg, cs = eE.enc x ∧ True := by
  obtain ⟨xs, k, _, _, hcl, hxl, hf⟩ := DataW.trod_struct Tryz.underlying86 h
  have cl : cs.length = 2 := hcl.trans (by kernel_rfl)
  match cs, cl with
  | [c0, c1], _ =>
    have hx4 : xs.length = 2 := hxl
    match xs, hx4 with
    | [y0, y1], _ =>
      have k3 : Tryz.prog.cellsOf 3 = 1 := by kernel_rfl
      have g0 := hf 0 _ rfl
      have g1 := hf 1 _ rfl
      simp [k3] at g0 g1
      obtain ⟨n0, h0, _⟩ := DataW.trod_int Tryz.underlying3 g0
      obtain ⟨n1, h1, _⟩ := DataW.trod_int Tryz.underlying3 g1
      simp at h0 h1
      subst h0; subst h1
      exact ⟨⟨n0, n1⟩, rfl, trivial⟩
theorem rep_bool {O : List Nat} {w : World} {v : Value} {b : Bool} (h : Sx.Rep O w (.bool b) v) : v = .bool b := by obtain ⟨cs, r, rfl⟩ := h; simp only [Sx.RepC] at r; subst r; rfl
set_option maxRecDepth 100000 in
/-- a pattern that came in -/
theorem open_pat {H : Type} {e' : TypeId × Value → H} {w : World} {held : Bool} {spare : Nat → Bool} {r : Reach} {b0 : Nat} {v : Value} {d : DataW H} {ps : List MemPlace} (hval : Value.okWide Tryz.prog w r b0 47 v) (h : DataW.Trod e' Tryz.prog w 0 spare held 47 v d ps) : ∃ p : Pt, Sx.Rep [] w (dPt p) v := by
  obtain ⟨cs, rfl, hsz⟩ := okWide_struct Tryz.underlying47 hval
  obtain ⟨fuel, hf⟩ := h
  obtain ⟨xs, k, _, _, hcl, hxl, hfl⟩ := DataW.trod_struct Tryz.underlying47 hf
  have hcs : (Value.agg cs).cells.toList = cs.toList := rfl
  rw [hcs] at hcl hfl
  have cl : cs.toList.length = 2 := hcl.trans (by kernel_rfl)
  match hl : cs.toList, cl with
  | [c0, c1], _ =>
    rw [hl] at hfl
    have hx2 : xs.length = 2 := hxl
    match xs, hx2 with
    | [y0, y1], _ =>
      have k1 : Tryz.prog.cellsOf 22 = 1 := by kernel_rfl
      have k2 : Tryz.prog.cellsOf 23 = 1 := by kernel_rfl
      have g0 := hfl 0 _ rfl
      have g1 := hfl 1 _ rfl
      simp [k1, k2] at g0 g1
      obtain ⟨a0, n0, m0, e0, h00, h01⟩ := trod_slice_shape Tryz.underlying22 g0
      obtain ⟨a1, n1, m1, e1, h10, h11⟩ := trod_slice_shape Tryz.underlying23 g1
      simp only [List.cons.injEq, and_true] at e0 e1
      subst e0 e1
      obtain ⟨l, r0, _⟩ := argSl_shape (enc := eI.enc) (fun _ => True) Tryz.underlying22 (k := 1) (by kernel_rfl) (by decide) (fun _ => rfl) int_el ⟨_, _, _, rfl⟩ (⟨k, g0⟩ : DataW.Trod e' Tryz.prog w 0 spare held 22 (.slice a0 n0 m0) y0.1 y0.2)
      obtain ⟨E, r1, _⟩ := argSl_shape (enc := eE.enc) (fun _ => True) Tryz.underlying23 (k := 2) (by kernel_rfl) (by decide) (fun _ => rfl) edge_el ⟨_, _, _, rfl⟩ (⟨k, g1⟩ : DataW.Trod e' Tryz.prog w 0 spare held 23 (.slice a1 n1 m1) y1.1 y1.2)
      obtain ⟨s0, p0, q0⟩ := eI.rep_arg (by decide) r0 (fun a n c e => by cases e; exact ⟨h00, h01⟩)
      obtain ⟨s1, p1, q1⟩ := eE.rep_arg (by decide) r1 (fun a n c e => by cases e; exact ⟨h10, h11⟩)
      refine ⟨⟨l, E⟩, [.slice a0 n0 m0, .slice a1 n1 m1], ?_, ?_⟩
      · simp only [dPt, Sx.RepC, Sx.RepCs]
        have z0 : s0 = [.slice a0 n0 m0] := by
          have p0' := p0
          simp only [Sx.RepC] at p0'
          obtain ⟨_, _, _, rfl, _⟩ := p0'
          rw [q0]; rfl
        have z1 : s1 = [.slice a1 n1 m1] := by
          have p1' := p1
          simp only [Sx.RepC] at p1'
          obtain ⟨_, _, _, rfl, _⟩ := p1'
          rw [q1]; rfl
        subst z0 z1
        exact ⟨_, _, rfl, p0, _, _, rfl, p1, rfl⟩
      · show Value.agg cs = .agg _
        congr 1
        apply Array.toList_inj.1
        rw [hl]
/-- A WORLD FOR THE WITNESS: the settled one, the variable's cell laid. -/
noncomputable def laidWorld (os : Os) : World :=
  let w0 := World.holding Tryz.prog os ⟨#[], #[], []⟩
  { w0 with heap := w0.heap.modify 0 fun
      | .cells _ t frozen => .cells #[.iface 234 (.agg #[.pointer (some ⟨5, 33, none⟩)])] t frozen
      | o => o }
theorem laidWorld_met (os : Os) (args : Array Value) : laidMetH Tryz.prog laidAll ((laidWorld os).forCall (fun _ _ => 0) ⟨#[], args, []⟩).memory :=
  laidMetH_of_parts (laidMet_nil _ _) (by kernel_rfl)
end Go.Proofs.YteigfapjiekdnaaGreatDoor
end

section

namespace Go.Proofs.YteigfapjiekdnaaGreatDoor
open Go.ChangeShapes Go.WideShapes Go.ChangeAt Go.RowKit Go.Reg Go.Gr Go.ChangeMaps

set_option maxRecDepth 100000 in
theorem contractMiniRules (H : Type) (enc : TypeId × Value → H) (W : World) (base : Nat) (args : Array Value) (ds gs : List (DataW H)) (before : List MemPlace)
    (hval : ∀ (j : Nat) t v, Tryz.f4.params[j]? = some t → args[j]? = some v → Value.okWide Tryz.prog W .any base t v)
    (hW : DataW.Whole enc Tryz.prog Tryz.f4.params.toList Rows.miniRulesSpec.vars false W args.toList ds gs before) (hsz0 : (DataW.weightsEach Tryz.prog (Tryz.f4.params.toList ++ (OpenSpec.ofChange Rows.miniRulesSpec).bare.plain.varTypes Tryz.prog) (ds ++ gs)).all (· ≤ reachBytes) = true) (hL : laidMetH Tryz.prog Rows.miniRulesRow.laid W) (_hsh : W.ShapedOpen Tryz.prog) :
    Calls Tryz.prog 4 args W fun e W' => ∃ v, e = .returned v ∧ Rows.miniRulesSpec.post enc Tryz.prog Tryz.f4 false true false false W args v W' := by
  have hsz := hsz0
  clear hsz0
  have hW' := hW
  obtain ⟨p, q, hA0, hV, rfl, hfz, hnd⟩ := hW
  have hA : DataW.TrodAll enc Tryz.prog W 0 (fun _ => true) true Tryz.f4.params.toList args.toList ds p := hA0
  rw [Tryz.params4] at hA hval hsz
  obtain ⟨v0, v1, v2, v3, d0, d1, d2, d3, p0, p1, p2, p3, rfl, rfl, rfl, h0, h1, h2, h3⟩ := trodAll_four hA
  obtain ⟨rfl, rfl⟩ := trodVars_none hV
  have c0 := Sx.cap_of Tryz.underlying22 (hval 0 _ _ rfl rfl) h0
  obtain ⟨x0, a0, _⟩ := argSl_of (enc := eI.enc) (fun _ => True) Tryz.underlying22 (k := 1) (by kernel_rfl) (by decide) (fun _ => rfl) int_el (hval 0 _ _ rfl rfl) h0
  have c1 := Sx.cap_of Tryz.underlying23 (hval 1 _ _ rfl rfl) h1
  obtain ⟨x1, a1, _⟩ := argSl_of (enc := eE.enc) (fun _ => True) Tryz.underlying23 (k := 2) (by kernel_rfl) (by decide) (fun _ => rfl) edge_el (hval 1 _ _ rfl rfl) h1
  obtain ⟨x2, r2⟩ := open_pat (hval 2 _ _ rfl rfl) h2
  obtain ⟨x3, rfl, rfl, rfl, w3⟩ := open_int Tryz.underlying5 (hval 3 _ _ rfl rfl) h3
  have b3 : 0 ≤ x3 ∧ x3 ≤ 255 := by
    have e1 : IntKind.u8.min = 0 := by decide
    have e2 : IntKind.u8.max = 255 := by decide
    have := w3
    simp [Lit.wf, e1, e2] at this; omega
  have hg := globs_of (show laidMetH Tryz.prog laidAll W from hL)
  have l0 : ∀ x ∈ p0, x.block < W.heap.size := fun x hx => by have := hW'.lt x (by simp [hx]); simpa using this
  have l1 : ∀ x ∈ p1, x.block < W.heap.size := fun x hx => by have := hW'.lt x (by simp [hx]); simpa using this
  have l2 : ∀ x ∈ p2, x.block < W.heap.size := fun x hx => by have := hW'.lt x (by simp [hx]); simpa using this
  refine ((mrules_pure x0 x1 x2 x3 b3).calls hg (Sx.reps_cons (eI.rep_arg (by decide) a0 c0) (Sx.reps_cons (eE.rep_arg (by decide) a1 c1) (Sx.reps_cons r2 (Sx.reps_cons (Sx.rep_of_int .u8 x3) Sx.reps_nil))))).mono fun e W' ⟨u, y, he, hy, hr, ht⟩ => ?_
  subst hy
  obtain rfl := rep_bool hr
  subst he
  refine ⟨_, rfl, _, _, _, [], p0 ++ (p1 ++ (p2 ++ [])), [], hW', ?_, ?_, ?_, ?_, fun h => by cases h⟩
  · exact trodAll_mk1 (shut_bool Tryz.underlying4 true)
  · exact trodAll_mk4 (Below.trod laidOut (by kernel_rfl) (of_decide_eq_true (by kernel_rfl)) h0 ht.below l0) (Below.trod laidOut (by kernel_rfl) (of_decide_eq_true (by kernel_rfl)) h1 ht.below l1) (Below.trod laidOut (by kernel_rfl) (of_decide_eq_true (by kernel_rfl)) h2 ht.below l2) (shut_int Tryz.underlying5 w3)
  · rfl
  · refine ⟨ht.os, ht.output, fun i hi => ?_⟩
    rw [ht.blk i hi (by simp)]
    have hsome : ∃ o, W.heap[i]? = some o := ⟨_, Array.getElem?_eq_getElem hi⟩
    obtain ⟨o, ho⟩ := hsome
    rw [ho]
    cases o <;> simp

theorem readsMiniRules (os : Os) {H : Type} (enc : TypeId × Value → H) : ∃ places, DataW.whole enc Tryz.prog ((laidWorld os).forCall (fun _ _ => 0) ⟨#[], #[.slice none 0 0, .slice none 0 0, .agg #[.slice none 0 0, .slice none 0 0], .int .u8 0], []⟩).memory Tryz.f4.params.toList Rows.miniRulesSpec.vars false #[.slice none 0 0, .slice none 0 0, .agg #[.slice none 0 0, .slice none 0 0], .int .u8 0].toList 8 = some ([.nil, .nil, .agg [.nil, .nil], .lit (.int .u8 0)], [], places) :=
  ⟨[], by kernel_rfl⟩

set_option maxRecDepth 100000 in
theorem liftedMiniRules (os : Os) (started : os.Started) (H : Type) (enc : TypeId × Value → H) (F : Stop.Interp) :
    ReturnsInHanded {} Tryz.checked os 4 .any ((OpenSpec.ofChange Rows.miniRulesSpec).preRow enc Tryz.prog Tryz.f4 Rows.miniRulesRow.domain false Rows.miniRulesRow.laid) (((OpenSpec.ofChange Rows.miniRulesSpec).at F).post enc Tryz.prog Tryz.f4 false true false false) := by
  obtain ⟨places, hx⟩ := readsMiniRules os enc
  refine returnsInHanded_of_row (C := Tryz.checked) (s := OpenSpec.ofChange Rows.miniRulesSpec) own started (by kernel_rfl) Tryz.func4
    (witness_row_at (enc := enc) (C := Tryz.checked) false (laidWorld os) #[.slice none 0 0, .slice none 0 0, .agg #[.slice none 0 0, .slice none 0 0], .int .u8 0] rfl (by kernel_rfl) (by kernel_rfl) (by kernel_rfl)
      (OpenSpec.preRow_of_cond 8 hx (by kernel_rfl) (fun k hk => by cases hk) (by kernel_rfl) (laidWorld_met os _))) ?_
  intro W base args ds gs before hval hW _ _ hsz hL hsh _
  exact contractMiniRules H enc W base args ds gs before hval hW hsz hL hsh

theorem saidMiniRules : Rows.MiniRulesSaid :=
  OpenClaim.holds_of_cond 4 Tryz.f4 rfl rfl rfl rfl rfl rfl rfl ⟨rfl, rfl, rfl, rfl, rfl⟩ rfl rfl rfl rfl rfl (by kernel_rfl) Tryz.func4 (by kernel_rfl)
    (of_decide_eq_true (by kernel_rfl)) (by unfold Func.isWrapper; first | (rw [if_pos (by decide +kernel)]; kernel_rfl) | (rw [if_neg (by decide +kernel)]; exact ⟨rfl, rfl⟩))
    (fun os started H enc _ F => by rw [OpenClaim.pre_eq_preRow]; exact liftedMiniRules os started H enc F)

theorem plainMiniRules (f : FuncId) (fn : Func) (hf : Tryz.pinned.checked.prog.funcNamed "fretwork/fretworklaw15.MiniRules" = some f) (hfn : Tryz.pinned.checked.prog.funcs[f]? = some fn) :
    true = Tryz.pinned.checked.prog.looks [] ∧ ∀ (j : Nat) t, fn.params[j]? = some t → Tryz.pinned.checked.prog.wantsStandIn t = false := by
  obtain rfl : f = 4 := Option.some.inj ((show Tryz.prog.funcNamed "fretwork/fretworklaw15.MiniRules" = some 4 by kernel_rfl).symm.trans hf) |>.symm
  obtain rfl : fn = Tryz.f4 := (Option.some.inj (Tryz.func4.symm.trans hfn)).symm
  refine ⟨by kernel_rfl, fun j t ht => ?_⟩
  rw [Tryz.params4] at ht
  have hm := Array.mem_of_getElem? ht
  simp at hm
  rcases hm with rfl | rfl | rfl | rfl
  · exact (show Tryz.prog.wantsStandIn 22 = false by kernel_rfl)
  · exact (show Tryz.prog.wantsStandIn 23 = false by kernel_rfl)
  · exact (show Tryz.prog.wantsStandIn 47 = false by kernel_rfl)
  · exact (show Tryz.prog.wantsStandIn 5 = false by kernel_rfl)

theorem cardMiniRules : Rows.MiniRulesCardSaid :=
  Claim7.holds_tied_plain_at .later [] _ _ _ _ saidMiniRules (fun _ h => by cases h) (by kernel_rfl) (fun _ h => by cases h) miniRules_row_tie rfl ⟨rfl, rfl⟩ (by kernel_rfl) rfl plainMiniRules (by kernel_rfl)
#print axioms cardMiniRules
end Go.Proofs.YteigfapjiekdnaaGreatDoor
end
