/- An owned struct given up. · GraphCopies: the walk. -/
import Derived.Test.YtmkbgbnehokmmaaDoorGsm
import Derived.Test.YtmkbgbnehokmmaaDoorGla
import Derived.Test.YtmkbgbnehokmmaaDoorGrm
import Derived.Test.YtmkbgbnehokmmaaDoorRfb
import Derived.Test.YtmkbgbnehokmmaaDoorSmi
namespace Go.Sx
open Go Go.RowKit Go.Reg Go.Proofs Go.Proofs.YtmkbgbnehokmmaaDoor
section
variable {C : Cx} {T : Tab} {B S : List Nat} {w0 w : World} {n : Nat} {fr : Fr} {σ : Sg} {η : Nat → Value} {φ : Nat → List Nat} {a : Act} {i : Nat} {t : TypeId} {xs : List Da}
theorem Models.cellsRef (hM : Models C B S w0 n fr σ η φ a w) (hg : sget i σ = some (.cells t (datas xs))) : Later (B ++ blocks φ σ) w (B ++ blocks φ (sdel (killO i (.ref (.agg xs))) i σ)) w ∧ RepC (B ++ blocks φ (sdel (killO i (.ref (.agg xs))) i σ)) w (.ref (.agg xs)) [η i] := by
  have hm := hM.mem
  have hi := mem_ids (sget_mem hg)
  have hsub : ∀ b ∈ B ++ blocks φ (sdel (killO i (.ref (.agg xs))) i σ), b ∈ B ∨ ∃ j ∈ ids σ, j ≠ i ∧ b ∈ φ j := by
    intro b hb
    rcases List.mem_append.1 hb with hb | hb
    · exact .inl hb
    · obtain ⟨p, hp, hb⟩ := List.mem_flatMap.1 hb
      obtain ⟨q, hq, hne, rfl⟩ := mem_sdel hp
      exact .inr ⟨q.1, mem_ids hq, hne, hb⟩
  have hl : Later (B ++ blocks φ σ) w (B ++ blocks φ (sdel (killO i (.ref (.agg xs))) i σ)) w := ⟨Nat.le_refl _, fun _ _ _ => rfl, fun b hn _ hb => by
    rcases hsub b hb with h | ⟨j, hj, _, h⟩
    · exact hn (List.mem_append_left _ h)
    · exact hn (List.mem_append_right _ (mem_blocks hj h))⟩
  refine ⟨hl, ?_⟩
  obtain ⟨b, cs, e1, e2, hB, hrr⟩ := hm.own _ (sget_mem hg)
  have hr2 := RepCs.later hl _ _ (repDs_datas.1 hrr)
  have hbi : b ∈ φ i := by rw [show φ i = [b] from e2]; simp
  simp only [RepC]
  refine ⟨b, 0, cs, by rw [show η i = _ from e1], fun hb => ?_, hB.lt, hr2, fun j u hj => by rw [Nat.zero_add]; exact hB.cell hj⟩
  rcases hsub b hb with h | ⟨j, hj, hne, h⟩
  · exact notIn_B hm hi hbi h
  · exact hm.disj j hj i hi hne b h hbi
/-- a call, before which an owned struct is given up -/
theorem call_frzC (i : Nat) {q : Bool} {f : FuncId} {args : List Dat} {K : KD} {ds : List Dat} (hg : sget i σ = some (.cells t ds)) (ha : allD ds = some xs) (h : SxCall C q f (kills i (.ref (.agg xs)) args) K (killF i (.ref (.agg xs)) fr) (sdel (killO i (.ref (.agg xs))) i σ)) : SxCall C q f args K fr σ := by
  have hd := allD_datas ha
  subst hd
  unfold SxCall at h ⊢
  rintro B S w0 η φ n a w vs hM ⟨css, hr, rfl⟩
  obtain ⟨hl, hr0⟩ := hM.cellsRef hg
  have hI : ∀ j ∈ ids σ, j ≠ i → j ∈ ids (sdel (killO i (.ref (.agg xs))) i σ) ∧ η j = η j := fun j hj hne => ⟨by rw [ids_sdel]; exact List.mem_filter.2 ⟨hj, by simpa using hne⟩, rfl⟩
  have hr' := RepDss.kill (x := .ref (.agg xs)) rfl hl hI hr0 _ _ hr
  obtain ⟨h1, h2⟩ := hM.mem.del (x := .ref (.agg xs)) rfl hr0
  have hM' : Models C B S w0 n (killF i (.ref (.agg xs)) fr) (sdel (killO i (.ref (.agg xs))) i σ) η φ a w := ⟨h1, hM.fr.kill rfl h2 hI hr0, hM.defers, hM.size⟩
  exact h B S w0 η φ n a w _ hM' ⟨css, hr', by rw [zip_kills rfl]⟩
end
end Go.Sx
namespace Go.Proofs.YtmkbgbnehokmmaaDoor
open Go.Sx Go.RowKit Go.Reg Go.Gr

set_option maxRecDepth 100000
def pl_gcp : List (Nat × Plan) := [(15, .leaf [0, 0, 0, 1, 0, 0, 0, 1, 3] [0, 1, 2, 4, 5, 6, 3, 7, 8] [0, 0, 3, 7, 0, 0, 48, 112, 255]),
  (32, .leaf [0, 0, 2, 0, 0, 0, 1, 0, 0, 0, 0, 2, 1, 0, 2, 2, 0, 0, 0, 0, 0, 2, 0, 0, 2, 2, 0, 0] [0, 1, 3, 4, 5, 6, 2, 7, 8, 9, 10, 13, 12, 11, 14, 15, 16, 17, 18, 19, 20, 22, 23, 21, 24, 25, 26, 27] [0, 0, 3, 0, 0, 24, 56, 127, 255, 511, 511, 2047, 511, 511, 16383, 32767, 65535, 131071, 262143, 524287, 524287, 2097151, 524287, 524287, 16777215, 33554431, 67108863, 134217727])]
def G_gcp : List FuncId := [27, 30, 31, 32, 28]
theorem cok_gcp : codeOk Tryd.prog G_gcp pl_gcp (Tryd.f8.body.getD .skip) = true := by kernel_rfl
theorem run_gcp (vs : Array Value) (w : World) : (callFunc 8 vs).run C1.P w = .ok (.enter 8 vs) w := by kernel_rfl
set_option maxHeartbeats 8000000 in
theorem gcopies_pure (labels : List Int) (edges : List Edg) : Pure C1 8 [dIs labels, dEs edges] (fun y => y = .bool true) := by
  have hlm : (labels.map dI).length = labels.length := List.length_map _
  have hem : (edges.map dE).length = edges.length := List.length_map _
  refine pure_of c1_ok (pl := pl_gcp) (G := G_gcp) Tryd.func8 rfl Tryd.ntmps8 run_gcp cok_gcp (by simp) ?_
  ((conv => whnf); repeat' ((first | refine odw ?_ | refine ify ?_ | refine ifn ?_ | refine i6 ?_ | refine ati ?_ | refine mst ?_ | refine rmd ?_ | refine ibo (fun _ => ?_) (fun _ => ?_)) <;> conv => whnf))
  refine call_eq rfl galive_pure ?_
  ((conv => whnf); repeat' ((first | refine odw ?_ | refine ify ?_ | refine ifn ?_ | refine i6 ?_ | refine ati ?_ | refine mst ?_ | refine rmd ?_ | refine ibo (fun _ => ?_) (fun _ => ?_)) <;> conv => whnf))
  refine call_eq rfl (made_pure labels edges) ?_
  rcases made_case labels edges with e | ⟨G, e, hG, hn, hm, hGe, hne, hlen⟩
  · rw [e]
    ((conv => whnf); repeat' ((first | refine odw ?_ | refine ify ?_ | refine ifn ?_ | refine i6 ?_ | refine ati ?_ | refine mst ?_ | refine rmd ?_ | refine ibo (fun _ => ?_) (fun _ => ?_)) <;> conv => whnf))
    exact rfl
  rw [e]
  have hGl : G.labels = labels := by rw [hGe]
  have hGd : G.edges = canon edges := by rw [hGe]
  rw [hGl] at hn
  rw [← hlen] at hm
  obtain ⟨q1, q2, q3, q4, q5⟩ := newErr_ok hne
  have hnp := new_pure labels edges
  rw [newY_none hne, ← hGe] at hnp
  have hrows := rows_cells labels (canon edges) (by omega) (by rw [canon_len]; omega) (by have := hG.edge; rw [hGl, hGd] at this; exact this)
  ((conv => whnf); repeat' ((first | refine odw ?_ | refine ify ?_ | refine ifn ?_ | refine i6 ?_ | refine ati ?_ | refine mst ?_ | refine rmd ?_ | refine ibo (fun _ => ?_) (fun _ => ?_)) <;> conv => whnf))
  refine call_mksl 301 rfl rfl (lawof_mksl edges (by omega)) ?_; rintro ds rfl
  ((conv => whnf); repeat' ((first | refine odw ?_ | refine ify ?_ | refine ifn ?_ | refine i6 ?_ | refine ati ?_ | refine mst ?_ | refine rmd ?_ | refine ibo (fun _ => ?_) (fun _ => ?_)) <;> conv => whnf))
  rw [show ([] ++ List.map dI labels : List Da) = List.map dI labels from rfl]
  refine call_inline 200 [(9, .own 301), (8, .own 30), (6, .own 6), (1, .d (dEs edges)), (0, .d (dIs labels))] c1_ok (pl := pl_new) (G := G_new) Tryd.func11 rfl Tryd.ntmps11 run_new cok_new (Nat.le_of_ble_eq_true rfl) rfl ⟨rfl, rfl, rfl, rfl, rfl, trivial⟩ rfl ?_
  intro us
  ((conv => whnf); repeat' ((first | refine odw ?_ | refine ify ?_ | refine ifn ?_ | refine i6 ?_ | refine ati ?_ | refine mst ?_ | refine rmd ?_ | refine ibo (fun _ => ?_) (fun _ => ?_)) <;> conv => whnf))
  refine loop_lo (ι := Nat) (fun v => v ≤ labels.length) (fun v => [(24, .d (.int .i64 v)), (23, .d (.int .i64 (labels.map dI).length)), (22, .own 30), (1, .own 301), (0, .own 30)])
    (fun _ => [(30, .slice 3 1 (labels.map dI)), (301, .slice 34 2 (edges.map dE)), (6, .cells 58 [.d (dIs G.labels), .d (dEs G.edges)]), (200, .ghost us [.own 301, .own 30, .own 6, .d (dEs edges), .d (dIs labels)])]) (fun v => labels.length - v) 0 (fun _ => rfl) (Nat.zero_le _) (.refl _ _) ⟨rfl, rfl, rfl, rfl, rfl, trivial⟩ ⟨rfl, rfl, rfl, rfl, trivial⟩ ?_
  intro v hv
  refine sxCode_sound c1_ok (G := G_new) (pl := pl_new) _ _ _ _ (by kernel_rfl) ?_
  by_cases hlt : v < labels.length
  · have hx := List.getElem?_eq_getElem hlt
    have hgx := q3 _ (List.getElem_mem hlt)
    generalize labels[v] = x at hx hgx
    have hxd : (labels.map dI)[v]? = some (.int .i64 x) := by rw [List.getElem?_map, hx]; rfl
    have b1 : ¬ x < 0 := fun h => by simp [badLabel, h] at hgx
    have b2 : ¬ 255 < x := fun h => by simp [badLabel, h] at hgx
    (repeat' ((first | refine ord_ok (by (conv => whnf); (repeat' ((first | refine el_at (i := v) rfl (by omega) ?_ | refine el_is hxd ?_ | refine ify ?_ | refine ifn ?_ | refine i6 ?_ | refine ati ?_ | refine mst ?_ | refine rmd ?_ | refine ibo (fun _ => ?_) (fun _ => ?_)) <;> conv => whnf)); (all_goals (repeat' (first | exact trivial | exact rfl | refine And.intro ?_ ?_)))) ?_ | refine el_at (i := v) rfl (by omega) ?_ | refine el_is hxd ?_ | refine ify ?_ | refine ifn ?_ | refine i6 ?_ | refine ati ?_ | refine mst ?_ | refine rmd ?_ | refine ibo (fun _ => ?_) (fun _ => ?_)) <;> conv => whnf))
    exact ⟨v + 1, _, _, hlt, .refl _ _, ⟨rfl, rfl, rfl, rfl, rfl, trivial⟩, ⟨rfl, rfl, rfl, rfl, trivial⟩, by omega⟩
  · ((conv => whnf); repeat' ((first | refine odw ?_ | refine ify ?_ | refine ifn ?_ | refine i6 ?_ | refine ati ?_ | refine mst ?_ | refine rmd ?_ | refine ibo (fun _ => ?_) (fun _ => ?_)) <;> conv => whnf))
    refine op_makeMap edgM 38 rfl rfl (.inr rfl) rfl ?_
    ((conv => whnf); repeat' ((first | refine odw ?_ | refine ify ?_ | refine ifn ?_ | refine i6 ?_ | refine ati ?_ | refine mst ?_ | refine rmd ?_ | refine ibo (fun _ => ?_) (fun _ => ?_)) <;> conv => whnf))
    refine call_mkslb tab 40 rfl rfl (clone_sl labels (by omega)) (fun ds h => by subst h; exact flats_ints _) ?_; rintro ds rfl
    ((conv => whnf); repeat' ((first | refine odw ?_ | refine ify ?_ | refine ifn ?_ | refine i6 ?_ | refine ati ?_ | refine mst ?_ | refine rmd ?_ | refine ibo (fun _ => ?_) (fun _ => ?_)) <;> conv => whnf))
    refine loop_lo (ι := Nat) (fun i => i ≤ edges.length) (fun i => [(45, .d (.int .i64 i)), (44, .d (.int .i64 (edges.map dE).length)), (43, .own 301), (9, .own 42), (8, .own 38), (0, .own 30)])
      (fun i => [(38, (edgM.obj (seenOf ((edges.take i).map turn))).own), (42, .cells 79 [.d (dIs labels), .own 300, .d .nils, .d .nils, .d .nils]), (300, .slice 34 2 (((edges.take i).map turn).map dE)), (30, .slice 3 1 (labels.map dI)), (301, .slice 34 2 (edges.map dE)), (6, .cells 58 [.d (dIs G.labels), .d (dEs G.edges)]), (200, .ghost us [.own 301, .own 30, .own 6, .d (dEs edges), .d (dIs labels)])])
      (fun i => edges.length - i) 0 (fun _ => rfl) (Nat.zero_le _) (.frz 40 rfl (.ownc 42 300 34 2 rfl rfl (.there _ (.here _)) (.refl _ _))) ⟨rfl, rfl, rfl, rfl, rfl, rfl, trivial⟩ ⟨rfl, rfl, rfl, rfl, rfl, rfl, rfl, trivial⟩ ?_
    intro i hi
    refine sxCode_sound c1_ok (G := G_new) (pl := pl_new) _ _ _ _ (by kernel_rfl) ?_
    by_cases hil : i < edges.length
    · have hx := List.getElem?_eq_getElem hil
      have htl : (((edges.take i).map turn).map dE).length = i := by rw [List.length_map, List.length_map, List.length_take]; omega
      have hxt := q5 _ (List.mem_map_of_mem (f := turn) (List.getElem_mem hil))
      have c4 : turn edges[i] ∉ (edges.take i).map turn := by
        intro hmm
        obtain ⟨e', he', h3⟩ := List.mem_map.1 hmm
        obtain ⟨j, hj, rfl⟩ := List.mem_take_iff_getElem.1 he'
        have := List.pairwise_iff_getElem.1 q4 j i (by rw [List.length_map]; omega) (by rw [List.length_map]; exact hil) (by omega)
        simp only [List.getElem_map] at this
        exact this h3
      generalize edges[i] = e0 at hx hxt c4
      have hxd : (edges.map dE)[i]? = some (.agg [.int .i64 e0.a, .int .i64 e0.b]) := by rw [List.getElem?_map, hx]; rfl
      have hsn : (edges.take (i + 1)).map turn = (edges.take i).map turn ++ [turn e0] := by rw [take_snoc' hx, List.map_append]; rfl
      have hSl : ((edges.take i).map turn).length = i := by rw [List.length_map, List.length_take]; omega
      generalize hS : (edges.take i).map turn = S at htl c4 hsn hSl ⊢
      have t1 : (turn e0).a = min e0.a e0.b := rfl
      have t2 : (turn e0).b = max e0.a e0.b := rfl
      have c1 : ¬ min e0.a e0.b < 0 := by omega
      have c2 : ¬ (labels.length : Int) ≤ max e0.a e0.b := by omega
      have c3 : ¬ e0.a = e0.b := by omega
      (repeat' ((first | refine ord_ok (by (conv => whnf); (repeat' ((first | refine el_at (i := i) rfl (by omega) ?_ | refine el_is hxd ?_ | refine ify ?_ | refine ifn ?_ | refine i6 ?_ | refine ati ?_ | refine mst ?_ | refine rmd ?_ | refine ibo (fun _ => ?_) (fun _ => ?_)) <;> conv => whnf)); (all_goals (repeat' (first | exact trivial | exact rfl | refine And.intro ?_ ?_)))) ?_ | refine el_at (i := i) rfl (by omega) ?_ | refine el_is hxd ?_ | refine ify ?_ | refine ifn ?_ | refine i6 ?_ | refine ati ?_ | refine mst ?_ | refine rmd ?_ | refine ibo (fun _ => ?_) (fun _ => ?_)) <;> conv => whnf))
      refine call_inline 201 [(45, .d (.int .i64 i)), (44, .d (.int .i64 (edges.map dE).length)), (43, .own 301), (10, .d (.int .i64 i)), (11, .own 11), (9, .own 42), (8, .own 38), (0, .own 30)] c1_ok (pl := pl_check) (G := G_check) Tryd.func41 rfl Tryd.ntmps41 run_check cok_check (Nat.le_of_ble_eq_true rfl) rfl ⟨rfl, rfl, rfl, rfl, rfl, rfl, rfl, rfl, trivial⟩ rfl ?_
      intro us2
      ((conv => whnf); repeat' ((first | refine odw ?_ | refine ify ?_ | refine ifn ?_ | refine i6 ?_ | refine ati ?_ | refine mst ?_ | refine rmd ?_ | refine ibo (fun _ => ?_) (fun _ => ?_)) <;> conv => whnf))
      refine call_pure rfl (turned_pure e0) ?_; rintro y rfl
      ((conv => whnf); repeat' ((first | refine odw ?_ | refine ify ?_ | refine ifn ?_ | refine i6 ?_ | refine ati ?_ | refine mst ?_ | refine rmd ?_ | refine ibo (fun _ => ?_) (fun _ => ?_)) <;> conv => whnf))
      refine op_lookup edgM (seenOf S) 38 (turn e0) rfl rfl rfl rfl (.inr rfl) rfl ?_
      rw [seen_look, show decide (turn e0 ∈ S) = false from decide_eq_false c4]
      (repeat' ((first | refine ord_ok (by (conv => whnf); (repeat' ((first | refine same_ok ?_ | refine ify ?_ | refine ifn ?_ | refine i6 ?_ | refine ati ?_ | refine mst ?_ | refine rmd ?_ | refine ibo (fun _ => ?_) (fun _ => ?_)) <;> conv => whnf)); (all_goals (repeat' (first | exact trivial | exact rfl | refine And.intro ?_ ?_)))) ?_ | refine same_ok ?_ | refine ify ?_ | refine ifn ?_ | refine i6 ?_ | refine ati ?_ | refine mst ?_ | refine rmd ?_ | refine ibo (fun _ => ?_) (fun _ => ?_)) <;> conv => whnf))
      refine call_pure rfl (turned_pure e0) ?_; rintro y rfl
      ((conv => whnf); repeat' ((first | refine odw ?_ | refine ify ?_ | refine ifn ?_ | refine i6 ?_ | refine ati ?_ | refine mst ?_ | refine rmd ?_ | refine ibo (fun _ => ?_) (fun _ => ?_)) <;> conv => whnf))
      refine op_update edgM (seenOf S) 38 (turn e0) true rfl rfl rfl rfl rfl rfl rfl ?_
      rw [← seenOf_snoc, ← hsn]
      ((conv => whnf); repeat' ((first | refine odw ?_ | refine ify ?_ | refine ifn ?_ | refine i6 ?_ | refine ati ?_ | refine mst ?_ | refine rmd ?_ | refine ibo (fun _ => ?_) (fun _ => ?_)) <;> conv => whnf))
      refine call_pure rfl (turned_pure e0) ?_; rintro y rfl
      ((conv => whnf); repeat' ((first | refine odw ?_ | refine ify ?_ | refine ifn ?_ | refine i6 ?_ | refine ati ?_ | refine mst ?_ | refine rmd ?_ | refine ibo (fun _ => ?_) (fun _ => ?_)) <;> conv => whnf))
      have hfin : S.map dE ++ [dE (turn e0)] = ((edges.take (i + 1)).map turn).map dE := by rw [hsn, List.map_append]; rfl
      exact ⟨i + 1, _, _, hil, .refl _ _, ⟨rfl, rfl, rfl, rfl, rfl, rfl, trivial⟩, ⟨rfl, rfl, slice_is hfin, rfl, rfl, rfl, rfl, trivial⟩, by omega⟩
    · have hie : edges.take i = edges := List.take_of_length_le (by omega)
      rw [hie]
      ((conv => whnf); repeat' ((first | refine odw ?_ | refine ify ?_ | refine ifn ?_ | refine i6 ?_ | refine ati ?_ | refine mst ?_ | refine rmd ?_ | refine ibo (fun _ => ?_) (fun _ => ?_)) <;> conv => whnf))
      refine call_tsl (i := 300) rfl rfl (sort_tsl (edges.map turn) (by rw [List.length_map]; omega)) ?_
      rintro y ds ⟨out, rfl, hp, ho⟩
      obtain rfl := canon_eq q4 hp ho
      ((conv => whnf); repeat' ((first | refine odw ?_ | refine ify ?_ | refine ifn ?_ | refine i6 ?_ | refine ati ?_ | refine mst ?_ | refine rmd ?_ | refine ibo (fun _ => ?_) (fun _ => ?_)) <;> conv => whnf))
      refine call_frz 300 rfl ?_
      refine call_cells (i := 42) rfl rfl rfl hrows ?_
      rintro y ys rfl
      (repeat' ((first | refine ord_ok (by (conv => whnf); (repeat' ((first | refine same_ok ?_ | refine ify ?_ | refine ifn ?_ | refine i6 ?_ | refine ati ?_ | refine mst ?_ | refine rmd ?_ | refine ibo (fun _ => ?_) (fun _ => ?_)) <;> conv => whnf)); (all_goals (repeat' (first | exact trivial | exact rfl | refine And.intro ?_ ?_)))) ?_ | refine same_ok ?_ | refine ify ?_ | refine ifn ?_ | refine i6 ?_ | refine ati ?_ | refine mst ?_ | refine rmd ?_ | refine ibo (fun _ => ?_) (fun _ => ?_)) <;> conv => whnf))
      refine call_frzC 42 rfl rfl ?_
      refine call_eq rfl (lawof_pure edges (by omega)) ?_
      ((conv => whnf); repeat' ((first | refine odw ?_ | refine ify ?_ | refine ifn ?_ | refine i6 ?_ | refine ati ?_ | refine mst ?_ | refine rmd ?_ | refine ibo (fun _ => ?_) (fun _ => ?_)) <;> conv => whnf))
      refine call_eq rfl hnp ?_
      have hdg : Da.ref (.agg [dIs labels, dEs (canon edges), dIs (firstL labels.length (canon edges)), dIs (nearL labels.length (canon edges)), dIs (idsL labels.length (canon edges))]) = dG G := by rw [hGe]; rfl
      have hsl := same_yes labels
      have hsg : Pure C1 29 [dG G, dG G] (fun y => y = .bool true) := by
        have := same_g G G hG
        rwa [decide_eq_true rfl, decide_eq_true rfl] at this
      (conv => whnf)
      (repeat' ((first | refine ord_ok (by (conv => whnf); (repeat' ((first | refine call_eqb tab rfl hsl rfl ?_ | refine ify ?_ | refine ifn ?_ | refine i6 ?_ | refine ati ?_ | refine mst ?_ | refine rmd ?_ | refine ibo (fun _ => ?_) (fun _ => ?_)) <;> conv => whnf)); (all_goals (repeat' (first | exact trivial | exact rfl | refine And.intro ?_ ?_)))) ?_ | refine call_eqb tab rfl hsl rfl ?_ | refine ify ?_ | refine ifn ?_ | refine i6 ?_ | refine ati ?_ | refine mst ?_ | refine rmd ?_ | refine ibo (fun _ => ?_) (fun _ => ?_)) <;> conv => whnf))
      refine loop_lo (ι := Nat × List Edg) (fun q => (q.1 ≤ edges.length ∧ q.2.length = edges.length) ∧ q.2.drop q.1 = edges.drop q.1) (fun q => [(14, .d (.int .i64 (q.1 : Nat))), (12, .d (dG G)), (10, .d (dG G)), (9, .own 301), (8, .own 30), (6, .own 6), (1, .d (dEs edges)), (0, .d (dIs labels))])
        (fun q => [(30, .slice 3 1 (labels.map dI)), (301, .slice 34 2 (q.2.map dE)), (6, .cells 58 [.d (dIs G.labels), .d (dEs G.edges)])]) (fun q => edges.length - q.1) (0, edges) (fun _ => rfl) ⟨⟨Nat.zero_le _, rfl⟩, rfl⟩ (.refl _ _) ⟨rfl, rfl, congrArg Dat.d hdg, rfl, rfl, rfl, rfl, rfl, trivial⟩ ⟨rfl, rfl, rfl, trivial⟩ ?_
      rintro ⟨i, D⟩ ⟨⟨hi, hDl⟩, hD⟩
      dsimp only at hi hDl hD
      have hDm : (D.map dE).length = D.length := List.length_map _
      dsimp only
      refine sxCode_sound c1_ok (G := G_gcp) (pl := pl_gcp) _ _ _ _ (by kernel_rfl) ?_
      by_cases hil : i < edges.length
      · have hx := List.getElem?_eq_getElem hil
        generalize edges[i] = e0 at hx
        have hDx : D[i]? = some e0 := by
          have := congrArg (fun z => z[0]?) hD
          simp only [List.getElem?_drop, Nat.add_zero] at this
          rw [this]; exact hx
        have hxd : (edges.map dE)[i]? = some (.agg [.int .i64 e0.a, .int .i64 e0.b]) := by rw [List.getElem?_map, hx]; rfl
        have hyd : (D.map dE)[i]? = some (.agg [.int .i64 e0.a, .int .i64 e0.b]) := by rw [List.getElem?_map, hDx]; rfl
        have hset : (D.map dE).set i (.agg [.int .i64 0, .int .i64 0]) = (D.set i ⟨0, 0⟩).map dE := by rw [List.map_set]; rfl
        have hD2 : (D.set i ⟨0, 0⟩).drop (i + 1) = edges.drop (i + 1) := by
          rw [List.drop_set_of_lt (by omega)]
          have := congrArg (List.drop 1) hD
          rwa [List.drop_drop, List.drop_drop] at this
        (conv => whnf)
        (repeat' ((first | refine ord_ok (by (conv => whnf); (repeat' ((first | refine at_da hxd rfl ?_ | refine el_at (i := i) rfl (by omega) ?_ | refine el_is hyd ?_ | refine ify ?_ | refine ifn ?_ | refine i6 ?_ | refine ati ?_ | refine mst ?_ | refine rmd ?_ | refine ibo (fun _ => ?_) (fun _ => ?_)) <;> conv => whnf)); (all_goals (repeat' (first | exact trivial | exact rfl | refine And.intro ?_ ?_)))) ?_ | refine at_da hxd rfl ?_ | refine el_at (i := i) rfl (by omega) ?_ | refine el_is hyd ?_ | refine ify ?_ | refine ifn ?_ | refine i6 ?_ | refine ati ?_ | refine mst ?_ | refine rmd ?_ | refine ibo (fun _ => ?_) (fun _ => ?_)) <;> conv => whnf))
        exact ⟨(i + 1, D.set i ⟨0, 0⟩), _, _, ⟨⟨hil, by dsimp only; rw [List.length_set]; exact hDl⟩, hD2⟩, .refl _ _, ⟨rfl, rfl, rfl, rfl, rfl, rfl, rfl, rfl, trivial⟩, ⟨rfl, slice_is hset, rfl, trivial⟩, by dsimp only; omega⟩
      · ((conv => whnf); repeat' ((first | refine odw ?_ | refine ify ?_ | refine ifn ?_ | refine i6 ?_ | refine ati ?_ | refine mst ?_ | refine rmd ?_ | refine ibo (fun _ => ?_) (fun _ => ?_)) <;> conv => whnf))
        refine loop_lo (ι := Nat × List Int) (fun q => q.1 ≤ labels.length ∧ q.2.length = labels.length) (fun q => [(15, .d (.int .i64 (q.1 : Nat))), (12, .d (dG G)), (10, .d (dG G)), (8, .own 30), (6, .own 6), (0, .d (dIs labels))])
          (fun q => [(30, .slice 3 1 (q.2.map dI)), (6, .cells 58 [.d (dIs G.labels), .d (dEs G.edges)])]) (fun q => labels.length - q.1) (0, labels) (fun _ => rfl) ⟨Nat.zero_le _, rfl⟩ (.refl _ _) ⟨rfl, rfl, rfl, rfl, rfl, rfl, trivial⟩ ⟨rfl, rfl, trivial⟩ ?_
        rintro ⟨i, L⟩ ⟨hi, hLl⟩
        dsimp only at hi hLl
        have hLm : (L.map dI).length = L.length := List.length_map _
        dsimp only
        refine sxCode_sound c1_ok (G := G_gcp) (pl := pl_gcp) _ _ _ _ (by kernel_rfl) ?_
        by_cases hil : i < labels.length
        · have hset : (L.map dI).set i (.int .i64 200) = (L.set i 200).map dI := by rw [List.map_set]; rfl
          have hat := at_mksl G hG i
          have hLi := List.getElem?_eq_getElem (l := L) (i := i) (by omega)
          generalize L[i]'(by omega) = z at hLi
          have hzd : (L.map dI)[i]? = some (.int .i64 z) := by rw [List.getElem?_map, hLi]; rfl
          (conv => whnf)
          (repeat' ((first | refine ord_ok (by (conv => whnf); (repeat' ((first | refine el_at (i := i) rfl (by omega) ?_ | refine el_is hzd ?_ | refine ify ?_ | refine ifn ?_ | refine i6 ?_ | refine ati ?_ | refine mst ?_ | refine rmd ?_ | refine ibo (fun _ => ?_) (fun _ => ?_)) <;> conv => whnf)); (all_goals (repeat' (first | exact trivial | exact rfl | refine And.intro ?_ ?_)))) ?_ | refine el_at (i := i) rfl (by omega) ?_ | refine el_is hzd ?_ | refine ify ?_ | refine ifn ?_ | refine i6 ?_ | refine ati ?_ | refine mst ?_ | refine rmd ?_ | refine ibo (fun _ => ?_) (fun _ => ?_)) <;> conv => whnf))
          refine call_mksl 302 rfl rfl hat ?_; rintro ds rfl
          have hal : (atL G (i : Int)).length ≤ 1000 := by
            unfold atL
            split
            · unfold atD
              rw [List.length_map]
              exact Nat.le_trans (List.length_filter_le _ _) (by rw [List.length_zipIdx]; omega)
            · simp
          generalize atL G i = A0 at hal ⊢
          ((conv => whnf); repeat' ((first | refine odw ?_ | refine ify ?_ | refine ifn ?_ | refine i6 ?_ | refine ati ?_ | refine mst ?_ | refine rmd ?_ | refine ibo (fun _ => ?_) (fun _ => ?_)) <;> conv => whnf))
          refine loop_lo (ι := Nat × List Int) (fun q => q.1 ≤ A0.length ∧ q.2.length = A0.length) (fun q => [(17, .d (.int .i64 (q.1 : Nat))), (16, .own 302), (15, .d (.int .i64 i)), (12, .d (dG G)), (10, .d (dG G)), (8, .own 30), (6, .own 6), (0, .d (dIs labels))])
            (fun q => [(302, .slice 3 1 (q.2.map dI)), (30, .slice 3 1 ((L.set i 200).map dI)), (6, .cells 58 [.d (dIs G.labels), .d (dEs G.edges)])]) (fun q => A0.length - q.1) (0, A0) (fun _ => rfl) ⟨Nat.zero_le _, rfl⟩ (.refl _ _) ⟨rfl, rfl, rfl, rfl, rfl, rfl, rfl, rfl, trivial⟩ ⟨rfl, slice_is hset, rfl, trivial⟩ ?_
          rintro ⟨k, A⟩ ⟨hk, hAl⟩
          dsimp only at hk hAl
          have hAm : (A.map dI).length = A.length := List.length_map _
          dsimp only
          refine sxCode_sound c1_ok (G := G_gcp) (pl := pl_gcp) _ _ _ _ (by kernel_rfl) ?_
          by_cases hkl : k < A0.length
          · have hset2 : (A.map dI).set k (.int .i64 99) = (A.set k 99).map dI := by rw [List.map_set]; rfl
            have hAi := List.getElem?_eq_getElem (l := A) (i := k) (by omega)
            generalize A[k]'(by omega) = z at hAi
            have hzd : (A.map dI)[k]? = some (.int .i64 z) := by rw [List.getElem?_map, hAi]; rfl
            (conv => whnf)
            (repeat' ((first | refine ord_ok (by (conv => whnf); (repeat' ((first | refine el_at (i := k) rfl (by omega) ?_ | refine el_is hzd ?_ | refine ify ?_ | refine ifn ?_ | refine i6 ?_ | refine ati ?_ | refine mst ?_ | refine rmd ?_ | refine ibo (fun _ => ?_) (fun _ => ?_)) <;> conv => whnf)); (all_goals (repeat' (first | exact trivial | exact rfl | refine And.intro ?_ ?_)))) ?_ | refine el_at (i := k) rfl (by omega) ?_ | refine el_is hzd ?_ | refine ify ?_ | refine ifn ?_ | refine i6 ?_ | refine ati ?_ | refine mst ?_ | refine rmd ?_ | refine ibo (fun _ => ?_) (fun _ => ?_)) <;> conv => whnf))
            exact ⟨(k + 1, A.set k 99), _, _, ⟨hkl, by dsimp only; rw [List.length_set]; exact hAl⟩, .refl _ _, ⟨rfl, rfl, rfl, rfl, rfl, rfl, rfl, rfl, trivial⟩, ⟨slice_is hset2, rfl, rfl, trivial⟩, by dsimp only; omega⟩
          · ((conv => whnf); repeat' ((first | refine odw ?_ | refine ify ?_ | refine ifn ?_ | refine i6 ?_ | refine ati ?_ | refine mst ?_ | refine rmd ?_ | refine ibo (fun _ => ?_) (fun _ => ?_)) <;> conv => whnf))
            exact ⟨(i + 1, L.set i 200), _, _, ⟨hil, by dsimp only; rw [List.length_set]; exact hLl⟩, .refl _ _, ⟨rfl, rfl, rfl, rfl, rfl, rfl, trivial⟩, ⟨rfl, rfl, trivial⟩, by dsimp only; omega⟩
        · (conv => whnf)
          (repeat' ((first | refine ord_ok (by (conv => whnf); (repeat' ((first | refine call_eq rfl hsg ?_ | refine ify ?_ | refine ifn ?_ | refine i6 ?_ | refine ati ?_ | refine mst ?_ | refine rmd ?_ | refine ibo (fun _ => ?_) (fun _ => ?_)) <;> conv => whnf)); (all_goals (repeat' (first | exact trivial | exact rfl | refine And.intro ?_ ?_)))) ?_ | refine call_eq rfl hsg ?_ | refine ify ?_ | refine ifn ?_ | refine i6 ?_ | refine ati ?_ | refine mst ?_ | refine rmd ?_ | refine ibo (fun _ => ?_) (fun _ => ?_)) <;> conv => whnf))
          refine loop_lo (ι := Nat) (fun i => i ≤ labels.length) (fun i => [(18, .d (.int .i64 i)), (12, .d (dG G)), (10, .d (dG G)), (6, .own 6), (0, .d (dIs labels))])
            (fun _ => [(6, .cells 58 [.d (dIs G.labels), .d (dEs G.edges)])]) (fun i => labels.length - i) 0 (fun _ => rfl) (Nat.zero_le _) (.refl _ _) ⟨rfl, rfl, rfl, rfl, rfl, trivial⟩ ⟨rfl, trivial⟩ ?_
          intro i hi
          refine sxCode_sound c1_ok (G := G_gcp) (pl := pl_gcp) _ _ _ _ (by kernel_rfl) ?_
          by_cases hil : i < labels.length
          · have hx := List.getElem?_eq_getElem hil
            generalize labels[i] = x at hx
            have hxd : (labels.map dI)[i]? = some (.int .i64 x) := by rw [List.getElem?_map, hx]; rfl
            have hin : 0 ≤ (i : Int) ∧ (i : Int) < G.labels.length := by rw [hGl]; omega
            have hlb := label_pure G i
            have hlv : labelV G (i : Int) = x := by
              unfold labelV; rw [if_pos hin, Int.toNat_natCast, hGl, hx]; rfl
            rw [hlv] at hlb
            have hnr := near_pure G hG i
            have hnv : nearY G (i : Int) = dIs (nearD G.edges G.labels.length i) := by
              unfold nearY; rw [if_pos hin, Int.toNat_natCast, near_doc hG]
            rw [hnv] at hnr
            have hnd := rnear_pure G.labels G.edges i (by rw [hGl]; omega)
            have hs1 := same_yes (nearD G.edges G.labels.length i)
            generalize nearD G.edges G.labels.length i = N at hnr hnd hs1
            have hat := at_pure G hG i
            have hav : atY G (i : Int) = dIs (atD G.edges i) := by unfold atY; rw [if_pos hin, Int.toNat_natCast]
            rw [hav] at hat
            have hs2 := same_yes (atD G.edges i)
            generalize atD G.edges i = A at hat hs2
            (conv => whnf)
            (repeat' ((first | refine ord_ok (by (conv => whnf); (repeat' ((first | refine at_da hxd rfl ?_ | refine call_eq rfl hlb ?_ | refine call_eq rfl hnr ?_ | refine call_eq rfl hnd ?_ | refine call_eq rfl hs1 ?_ | refine call_eq rfl hat ?_ | refine call_eq rfl hs2 ?_ | refine ify ?_ | refine ifn ?_ | refine i6 ?_ | refine ati ?_ | refine mst ?_ | refine rmd ?_ | refine ibo (fun _ => ?_) (fun _ => ?_)) <;> conv => whnf)); (all_goals (repeat' (first | exact trivial | exact rfl | refine And.intro ?_ ?_)))) ?_ | refine at_da hxd rfl ?_ | refine call_eq rfl hlb ?_ | refine call_eq rfl hnr ?_ | refine call_eq rfl hnd ?_ | refine call_eq rfl hs1 ?_ | refine call_eq rfl hat ?_ | refine call_eq rfl hs2 ?_ | refine ify ?_ | refine ifn ?_ | refine i6 ?_ | refine ati ?_ | refine mst ?_ | refine rmd ?_ | refine ibo (fun _ => ?_) (fun _ => ?_)) <;> conv => whnf))
            exact ⟨i + 1, _, _, hil, .refl _ _, ⟨rfl, rfl, rfl, rfl, rfl, trivial⟩, ⟨rfl, trivial⟩, by omega⟩
          · ((conv => whnf); repeat' ((first | refine odw ?_ | refine ify ?_ | refine ifn ?_ | refine i6 ?_ | refine ati ?_ | refine mst ?_ | refine rmd ?_ | refine ibo (fun _ => ?_) (fun _ => ?_)) <;> conv => whnf))
            exact rfl
end Go.Proofs.YtmkbgbnehokmmaaDoor
