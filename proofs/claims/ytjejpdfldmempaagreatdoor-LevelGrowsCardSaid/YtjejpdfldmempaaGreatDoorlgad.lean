/- Merged: Grd Fal. -/
import Derived.Test.YtjejpdfldmempaaGreatDoorOen
import Derived.Test.YtjejpdfldmempaaGreatDoorlgab
import Derived.Test.YtjejpdfldmempaaGreatDoorlgac
import Derived.Test.YtjejpdfldmempaaGreatDoorCtx
section
namespace Go.Proofs.YtjejpdfldmempaaGreatDoor
open Go.Sx Go.RowKit Go.Reg Go.Gr
set_option maxRecDepth 100000
def arrD (m : Nat) (f : Nat → Int) : List Da := (List.range m).map fun v => dI (f v)
theorem arrD_len (m : Nat) (f : Nat → Int) : (arrD m f).length = m := by simp [arrD]
theorem arrD_at {m v : Nat} {f : Nat → Int} (h : v < m) : (arrD m f)[v]? = some (dI (f v)) := map_range_at _ h
theorem arrD_ext {m : Nat} {f g : Nat → Int} (h : ∀ v, v < m → f v = g v) : arrD m f = arrD m g := by
 unfold arrD
 exact List.map_congr_left fun v hv => by rw [h v (List.mem_range.1 hv)]
theorem arrD_set (m k : Nat) (f : Nat → Int) (x : Int) : (arrD m f).set k (dI x) = arrD m (fun v => if v = k then x else f v) := by
 unfold arrD
 rw [map_set]
 exact List.map_congr_left fun v _ => by by_cases h : v = k <;> simp [h]
theorem arrD_zero (m : Nat) : List.replicate m (dI 0) = arrD m (fun _ => 0) := by
 simp [arrD, List.map_const']
theorem arrD_ints (m : Nat) (f : Nat → Int) : arrD m f = ((List.range m).map f).map dI := by simp [arrD, Function.comp_def]
theorem at_da {ds : List Da} {i : Nat} {d : Da} {n : Int} {K : Nat → Da → Prop} (hx : ds[i]? = some d) (hn : n = i) (hK : K i d) : ∃ (j : Nat) (d : Da), n = j ∧ ds[j]? = some d ∧ K j d := ⟨i, d, hn, hx, hK⟩
theorem flats_ints : ∀ l : List Int, flats (l.map dI) = true
 | [] => rfl
 | x :: l => by simp only [List.map_cons, flats, flats_ints l]; rfl
def firstL (n : Nat) (E : List Edg) : List Int := (List.range (n + 1)).map fun v => (off (deg E) v : Int)
def nearL (n : Nat) (E : List Edg) : List Int := (List.range n).flatMap (nearOf E)
def idsL (n : Nat) (E : List Edg) : List Int := (List.range n).flatMap (idsOf E)
theorem ints_at {l : List Int} {p : Nat} (h : p < (l.map dI).length) : ∃ z : Int, (l.map dI)[p]? = some (.int .i64 z) := by
 rw [List.length_map] at h
 exact ⟨l[p], by rw [List.getElem?_map, List.getElem?_eq_getElem h]; rfl⟩
def nextA (E : List Edg) (i j : Nat) (v : Nat) : Int := (off (deg E) v : Int) + (rowR E i j v).length
theorem put_ok (n : Nat) (E : List Edg) (he : ∀ e ∈ E, 0 ≤ e.a ∧ e.a < n ∧ 0 ≤ e.b ∧ e.b < n) (i j v : Nat) (u id : Int) (hv : v < n) {i' j' : Nat} (hR : rowR E i' j' = more (rowR E i j) v u) (hI : rowI E i' j' = more (rowI E i j) v id) :
  ∃ p : Nat, p < 2 * E.length ∧ (arrD (n + 1) (nextA E i j))[v]? = some (.int .i64 (p : Int)) ∧ p < ((arr n (rowR E i j) (deg E)).map dI).length ∧ p < ((arr n (rowI E i j) (deg E)).map dI).length ∧
   ((arr n (rowR E i j) (deg E)).map dI).set p (.int .i64 u) = (arr n (rowR E i' j') (deg E)).map dI ∧ ((arr n (rowI E i j) (deg E)).map dI).set p (.int .i64 id) = (arr n (rowI E i' j') (deg E)).map dI ∧
   (arrD (n + 1) (nextA E i j)).set v (.int .i64 (p + 1)) = arrD (n + 1) (nextA E i' j') := by
 have hroom := row_room hR
 have hl := rowI_len E i j v
 have ho := off_deg E n he
 have hm := off_mono (deg E) (show v + 1 ≤ n by omega)
 simp only [off] at hm
 refine ⟨off (deg E) v + (rowR E i j v).length, by omega, ?_, ?_, ?_, ?_, ?_, ?_⟩
 ·rw [arrD_at (by omega)]
  simp only [dI, nextA, Int.natCast_add]
 ·rw [List.length_map, arr_len (fun w => rowR_le E i j w)]; omega
 ·rw [List.length_map, arr_len (fun w => rowI_le E i j w)]; omega
 ·rw [hR, ← arr_set u (fun w => rowR_le E i j w) hv hroom, List.map_set]; rfl
 ·rw [hI, ← arr_set id (fun w => rowI_le E i j w) hv (by rw [hl]; exact hroom), List.map_set, hl]; rfl
 ·refine (arrD_set _ _ _ _).trans (arrD_ext fun w _ => ?_)
  simp only [nextA, hR, more_len]
  split
  ·rename_i h; subst h; omega
  ·rfl
def pl_rows : List (Nat × Plan) := [(1, .leaf [1, 1, 0, 0, 1, 0, 0, 2, 0, 0, 3] [0, 1, 2, 3, 4, 5, 6, 7, 8, 9, 10] [0, 0, 2, 6, 14, 30, 62, 126, 255, 511, 1023]),
 (5, .leaf [1, 0, 0, 1, 0, 1, 0, 0, 1, 0, 0, 3] [4, 0, 1, 2, 3, 5, 6, 7, 8, 9, 10, 11] [0, 1, 3, 7, 0, 16, 48, 127, 255, 511, 1023, 2047]),
 (6, .leaf [1, 0, 0, 1, 0, 1, 0, 0, 1, 0, 0, 3] [4, 0, 1, 2, 3, 5, 6, 7, 8, 9, 10, 11] [0, 1, 3, 7, 0, 16, 48, 127, 255, 511, 1023, 2047]),
 (11, .leaf [1, 0, 0, 1, 0, 0, 0, 1, 1, 0, 0, 1, 0, 0, 1, 0, 0, 3] [4, 5, 12, 0, 1, 2, 3, 6, 7, 8, 9, 10, 11, 13, 14, 15, 16, 17] [0, 1, 3, 7, 0, 16, 63, 127, 0, 256, 768, 1792, 0, 7936, 16128, 32767, 65535, 131071]),
 (14, .split 1 18 (.split 8 15 (.split 15 18 (.leaf [1, 1, 1, 0, 0, 1, 0, 0, 2, 1, 0, 0, 1, 0, 0, 2, 0, 0, 3, 0, 0, 3] [0, 1, 2, 3, 4, 5, 6, 7, 9, 10, 11, 12, 13, 14, 8, 16, 17, 15, 18, 19, 20, 21] [0, 0, 0, 4, 12, 28, 60, 124, 252, 0, 512, 1536, 3584, 7680, 15872, 32764, 8189, 73725, 262143, 524287, 1048575, 2097151]) (.leaf [1, 1, 1, 0, 0, 1, 0, 0, 2, 1, 0, 0, 1, 0, 0, 2, 0, 0, 3, 0, 0, 3] [0, 1, 2, 3, 4, 5, 6, 7, 9, 10, 11, 12, 13, 14, 8, 16, 17, 18, 15, 19, 20, 21] [0, 0, 0, 4, 12, 28, 60, 124, 252, 0, 512, 1536, 3584, 7680, 15872, 491519, 8189, 73725, 204799, 524287, 1048575, 2097151])) (.leaf [1, 1, 1, 0, 0, 1, 0, 0, 2, 1, 0, 0, 1, 0, 0, 2, 0, 0, 3, 0, 0, 3] [0, 1, 2, 3, 4, 5, 6, 7, 9, 10, 11, 12, 13, 14, 15, 8, 16, 17, 18, 19, 20, 21] [0, 0, 0, 4, 12, 28, 60, 124, 65276, 0, 512, 1536, 3584, 7680, 15872, 32256, 65533, 131069, 262143, 524287, 1048575, 2097151])) (.split 8 15 (.split 15 18 (.leaf [1, 1, 1, 0, 0, 1, 0, 0, 2, 1, 0, 0, 1, 0, 0, 2, 0, 0, 3, 0, 0, 3] [0, 2, 3, 4, 5, 6, 7, 9, 10, 11, 12, 13, 14, 8, 16, 17, 15, 18, 1, 19, 20, 21] [0, 524285, 0, 4, 12, 28, 60, 124, 252, 0, 512, 1536, 3584, 7680, 15872, 32764, 8189, 73725, 262141, 524287, 1048575, 2097151]) (.leaf [1, 1, 1, 0, 0, 1, 0, 0, 2, 1, 0, 0, 1, 0, 0, 2, 0, 0, 3, 0, 0, 3] [0, 2, 3, 4, 5, 6, 7, 9, 10, 11, 12, 13, 14, 8, 16, 17, 18, 1, 15, 19, 20, 21] [0, 466941, 0, 4, 12, 28, 60, 124, 252, 0, 512, 1536, 3584, 7680, 15872, 491517, 8189, 73725, 204797, 524287, 1048575, 2097151])) (.leaf [1, 1, 1, 0, 0, 1, 0, 0, 2, 1, 0, 0, 1, 0, 0, 2, 0, 0, 3, 0, 0, 3] [0, 2, 3, 4, 5, 6, 7, 9, 10, 11, 12, 13, 14, 15, 8, 16, 17, 18, 1, 19, 20, 21] [0, 524285, 0, 4, 12, 28, 60, 124, 65276, 0, 512, 1536, 3584, 7680, 15872, 32256, 65533, 131069, 262141, 524287, 1048575, 2097151])))]
def G_rows : List FuncId := [60]
theorem cok_rows : codeOk Tryz.prog G_rows pl_rows (Tryz.f167.body.getD .skip) = true := by kernel_rfl
theorem run_rows (vs : Array Value) (w : World) : (callFunc 167 vs).run C1.P w = .ok (.enter 167 vs) w := by kernel_rfl
def pl_put : List (Nat × Plan) := [(0, .leaf [1, 0, 0, 1, 1, 0, 0, 1, 1, 0, 0, 1, 1, 0, 0, 1, 0, 0, 0, 3, 0, 3] [5, 13, 16, 17, 0, 1, 2, 3, 4, 6, 7, 8, 9, 10, 11, 12, 14, 15, 18, 19, 20, 21] [0, 1, 3, 7, 0, 0, 48, 112, 0, 256, 768, 1792, 0, 0, 12288, 28672, 0, 0, 131071, 393215, 1048575, 2097151])]
def G_put : List FuncId := []
theorem cok_put : codeOk Tryz.prog G_put pl_put (Tryz.f223.body.getD .skip) = true := by kernel_rfl
theorem run_put (vs : Array Value) (w : World) : (callFunc 223 vs).run C1.P w = .ok (.enter 223 vs) w := by kernel_rfl
set_option maxHeartbeats 4000000 in
theorem rows_cells (labels : List Int) (E : List Edg) (hn : labels.length ≤ 4096) (hm : E.length ≤ 16384) (he : ∀ e ∈ E, 0 ≤ e.a ∧ e.a < e.b ∧ e.b < labels.length) :
  TurnCells C1 167 243 [dIs labels, dEs E, .nils, .nils, .nils] [] (fun _y ys => ys = [dIs labels, dEs E, dIs (firstL labels.length E), dIs (nearL labels.length E), dIs (idsL labels.length E)]) := by
 have hll : (labels.map dI).length = labels.length := List.length_map _
 have hel : (E.map dE).length = E.length := List.length_map _
 refine cells_of c1_ok (pl := pl_rows) (G := G_rows) Tryz.func167 rfl Tryz.ntmps167 run_rows cok_rows (by simp) ?_
 intro vs
 (conv => whnf)
 (repeat' ((first | refine ord_ok ?_ ?_ | refine mk_ok (labels.length + 1) (by omega) (by omega) (by omega) ?_ | refine ify ?_ | refine ifn ?_ | refine i6 ?_ | refine ati ?_ | refine mst ?_ | refine rmd ?_ | refine ibo (fun _ => ?_) (fun _ => ?_) | exact oend) <;> conv => whnf))
 have e0 : List.replicate (labels.length + 1) (dI 0) = arrD (labels.length + 1) (degAt (E.take 0)) := by
  rw [arrD_zero]
  refine arrD_ext fun v _ => ?_
  cases v <;> simp [degAt, deg, nearOf, lessOf, moreOf]
 refine loop_lo (ι := Nat) (fun i => i ≤ E.length) (fun i => [(26, .d (.int .i64 i)), (25, .d (.int .i64 (E.map dE).length)), (24, .d (dEs E)), (1, .own 1)])
  (fun i => [(1, .cells 54 [.own 900]), (18, .slice 3 1 (arrD (labels.length + 1) (degAt (E.take i)))), (900, .cells 243 [.d (dIs labels), .d (dEs E), .own 18, .d .nils, .d .nils]), (901, .ghost vs [.own 900])])
  (fun i => E.length - i) 0 (fun _ => rfl) (Nat.zero_le _) (.refl _ _) ⟨rfl, rfl, rfl, rfl, trivial⟩ ⟨rfl, slice_is e0, rfl, rfl, trivial⟩ ?_
 intro i hi
 refine sxCode_sound c1_ok (G := G_rows) (pl := pl_rows) _ _ _ _ (by kernel_rfl) ?_
 by_cases hlt : i < E.length
 ·have hx := List.getElem?_eq_getElem hlt
  have hb := he _ (List.getElem_mem hlt)
  generalize E[i] = x at hx hb
  obtain ⟨a, b⟩ := x
  simp only at hb
  obtain ⟨a', rfl⟩ := Int.eq_ofNat_of_zero_le hb.1
  obtain ⟨b', rfl⟩ := Int.eq_ofNat_of_zero_le (show 0 ≤ b by omega)
  have hxd : (E.map dE)[i]? = some (.agg [.int .i64 (a' : Int), .int .i64 (b' : Int)]) := by rw [List.getElem?_map, hx]; rfl
  have hstep := degAt_step hx (by omega)
  have ha1 := degAt_le (E.take i) (a' + 1)
  have hb1 := degAt_le (E.take i) (b' + 1)
  have htl : (E.take i).length ≤ 16384 := by rw [List.length_take]; omega
  (repeat' ((first | refine ord_ok ?_ ?_ | refine at_da hxd (by omega) ?_ | refine el_at (i := a' + 1) (by omega) (by rw [arrD_len]; omega) ?_ | refine el_is (arrD_at (v := a' + 1) (by omega)) ?_ | refine ify ?_ | refine ifn ?_ | refine i6 ?_ | refine ati ?_ | refine mst ?_ | refine rmd ?_ | refine ibo (fun _ => ?_) (fun _ => ?_) | exact oend) <;> conv => whnf))
  generalize hf1 : (fun v => if v = a' + 1 then degAt (E.take i) (a' + 1) + 1 else degAt (E.take i) v) = f1
  have hs1 : (arrD (labels.length + 1) (degAt (E.take i))).set (a' + 1) (.int .i64 (degAt (E.take i) (a' + 1) + 1)) = arrD (labels.length + 1) f1 := by rw [← hf1]; exact arrD_set _ _ _ _
  rw [hs1]
  have hat : (arrD (labels.length + 1) f1)[b' + 1]? = some (.int .i64 (degAt (E.take i) (b' + 1))) := by
   rw [arrD_at (by omega), ← hf1]
   have : ¬ b' + 1 = a' + 1 := by omega
   simp only [this, if_false]; rfl
  (repeat' ((first | refine ord_ok ?_ ?_ | refine el_at (i := b' + 1) (by omega) (by rw [arrD_len]; omega) ?_ | refine el_is hat ?_ | refine ify ?_ | refine ifn ?_ | refine i6 ?_ | refine ati ?_ | refine mst ?_ | refine rmd ?_ | refine ibo (fun _ => ?_) (fun _ => ?_) | exact oend) <;> conv => whnf))
  have hs2 : (arrD (labels.length + 1) f1).set (b' + 1) (.int .i64 (degAt (E.take i) (b' + 1) + 1)) = arrD (labels.length + 1) (degAt (E.take (i + 1))) := by
   refine (arrD_set _ _ _ _).trans (arrD_ext fun v _ => ?_)
   rw [hstep v, ← hf1]
  exact ⟨i + 1, _, _, hlt, .refl _ _, ⟨rfl, rfl, rfl, rfl, trivial⟩, ⟨rfl, slice_is hs2, rfl, rfl, trivial⟩, by omega⟩
 ·have hie : i = E.length := by omega
  subst hie
  rw [List.take_length]
  ((conv => whnf); repeat' ((first | refine odw ?_ | refine ify ?_ | refine ifn ?_ | refine i6 ?_ | refine ati ?_ | refine mst ?_ | refine rmd ?_ | refine ibo (fun _ => ?_) (fun _ => ?_)) <;> conv => whnf))
  have hedge : ∀ e ∈ E, 0 ≤ e.a ∧ e.a < labels.length ∧ 0 ≤ e.b ∧ e.b < labels.length := fun e h => by have := he e h; omega
  have e1 : arrD (labels.length + 1) (degAt E) = arrD (labels.length + 1) (sumAt E 0) := arrD_ext fun v _ => (sumAt_zero E v).symm
  refine loop_lo (ι := Nat) (fun j => j ≤ labels.length) (fun j => [(58, .d (.int .i64 j)), (57, .d (.int .i64 (labels.map dI).length)), (1, .own 1)])
   (fun j => [(1, .cells 54 [.own 900]), (18, .slice 3 1 (arrD (labels.length + 1) (sumAt E j))), (900, .cells 243 [.d (dIs labels), .d (dEs E), .own 18, .d .nils, .d .nils]), (901, .ghost vs [.own 900])])
   (fun j => labels.length - j) 0 (fun _ => rfl) (Nat.zero_le _) (.refl _ _) ⟨rfl, rfl, rfl, trivial⟩ ⟨rfl, slice_is e1, rfl, rfl, trivial⟩ ?_
  intro j hj
  refine sxCode_sound c1_ok (G := G_rows) (pl := pl_rows) _ _ _ _ (by kernel_rfl) ?_
  by_cases hlt : j < labels.length
  ·have hsb : ∀ v, v ≤ labels.length → 0 ≤ sumAt E j v ∧ sumAt E j v ≤ 65536 := fun v hv => by
    unfold sumAt
    have h1 := off_le E labels.length hedge hv
    have h2 := degAt_le E v
    split <;> omega
   have h0 := hsb j (by omega)
   have h1 := hsb (j + 1) (by omega)
   have hat0 : (arrD (labels.length + 1) (sumAt E j))[j]? = some (.int .i64 (sumAt E j j)) := arrD_at (by omega)
   have hat1 : (arrD (labels.length + 1) (sumAt E j))[j + 1]? = some (.int .i64 (sumAt E j (j + 1))) := arrD_at (by omega)
   (repeat' ((first | refine ord_ok ?_ ?_ | refine el_at (i := j + 1) (by omega) (by rw [arrD_len]; omega) ?_ | refine el_at (i := j) (by omega) (by rw [arrD_len]; omega) ?_ | refine el_is hat1 ?_ | refine el_is hat0 ?_ | refine ify ?_ | refine ifn ?_ | refine i6 ?_ | refine ati ?_ | refine mst ?_ | refine rmd ?_ | refine ibo (fun _ => ?_) (fun _ => ?_) | exact oend) <;> conv => whnf))
   have hs2 : (arrD (labels.length + 1) (sumAt E j)).set (j + 1) (.int .i64 (sumAt E j (j + 1) + sumAt E j j)) = arrD (labels.length + 1) (sumAt E (j + 1)) :=
    (arrD_set _ _ _ _).trans (arrD_ext fun v _ => (sumAt_step E j v).symm)
   exact ⟨j + 1, _, _, hlt, .refl _ _, ⟨rfl, rfl, rfl, trivial⟩, ⟨rfl, slice_is hs2, rfl, rfl, trivial⟩, by omega⟩
  ·have hje : j = labels.length := by omega
   subst hje
   have e2 : arrD (labels.length + 1) (sumAt E labels.length) = (firstL labels.length E).map dI := by
    rw [firstL, ← arrD_ints]
    refine arrD_ext fun v hv => ?_
    simp only [sumAt]
    rw [if_pos (by omega)]
   rw [e2]
   have hfl : (firstL labels.length E).length = labels.length + 1 := by simp [firstL]
   ((conv => whnf); repeat' ((first | refine odw ?_ | refine ify ?_ | refine ifn ?_ | refine i6 ?_ | refine ati ?_ | refine mst ?_ | refine rmd ?_ | refine ibo (fun _ => ?_) (fun _ => ?_)) <;> conv => whnf))
   refine call_mkslb tab 83 rfl rfl (clone_sl (firstL labels.length E) (by omega)) (fun ds h => by rw [h]; exact flats_ints _) ?_
   rintro ds rfl
   (conv => whnf)
   refine i64_is (by omega) ?_
   (conv => whnf)
   refine i64_is (by omega) ?_
   (conv => whnf)
   refine mk_ok (2 * E.length) (by omega) (by omega) (by omega) ?_
   (conv => whnf)
   refine mk_ok (2 * E.length) (by omega) (by omega) (by omega) ?_
   (conv => whnf)
   refine ord_ok ?_ ?_
   focus
    (conv => whnf)
    repeat' (first | (refine i64_is (by omega) ?_; conv => whnf) | (refine mk_ok (2 * E.length) (by omega) (by omega) (by omega) ?_; conv => whnf))
    all_goals (repeat' (first | exact trivial | exact rfl | refine And.intro ?_ ?_))
    done
   (conv => whnf)
   refine ord_ok ?_ ?_
   focus
    (conv => whnf)
    repeat' (first | (refine i64_is (by omega) ?_; conv => whnf) | (refine mk_ok (2 * E.length) (by omega) (by omega) (by omega) ?_; conv => whnf))
    all_goals (repeat' (first | exact trivial | exact rfl | refine And.intro ?_ ?_))
    done
   (conv => whnf)
   refine ord_ok ?_ ?_
   focus
    (conv => whnf)
    repeat' (first | (refine i64_is (by omega) ?_; conv => whnf) | (refine mk_ok (2 * E.length) (by omega) (by omega) (by omega) ?_; conv => whnf))
    all_goals (repeat' (first | exact trivial | exact rfl | refine And.intro ?_ ?_))
    done
   (conv => whnf)
   refine ord_ok ?_ ?_
   focus
    (conv => whnf)
    repeat' (first | (refine i64_is (by omega) ?_; conv => whnf) | (refine mk_ok (2 * E.length) (by omega) (by omega) (by omega) ?_; conv => whnf))
    all_goals (repeat' (first | exact trivial | exact rfl | refine And.intro ?_ ?_))
    done
   (conv => whnf)
   refine ord_ok ?_ ?_
   focus
    (conv => whnf)
    repeat' (first | (refine i64_is (by omega) ?_; conv => whnf) | (refine mk_ok (2 * E.length) (by omega) (by omega) (by omega) ?_; conv => whnf))
    all_goals (repeat' (first | exact trivial | exact rfl | refine And.intro ?_ ?_))
    done
   (conv => whnf)
   have hz92 : List.replicate (2 * E.length) (dI 0) = (arr labels.length (rowR E 0 0) (deg E)).map dI := by
    rw [arr_none _ _ _ (rowR_zero E), off_deg E _ hedge]; simp
   have hz99 : List.replicate (2 * E.length) (dI 0) = (arr labels.length (rowI E 0 0) (deg E)).map dI := by
    rw [arr_none _ _ _ (rowI_zero E), off_deg E _ hedge]; simp
   have hz83 : (firstL labels.length E).map dI = arrD (labels.length + 1) (nextA E 0 0) := by
    rw [firstL, ← arrD_ints]
    exact arrD_ext fun v _ => by simp [nextA, rowR_zero]
   refine loop_lo (ι := Nat) (fun i => i ≤ E.length) (fun i => [(110, .d (.int .i64 i)), (109, .d (.int .i64 (E.map dE).length)), (108, .d (dEs E)), (6, .func (.func 223) [] [.own 1, .own 5]), (1, .own 1)])
    (fun i => [(1, .cells 54 [.own 900]), (5, .cells 28 [.own 83]), (18, .slice 3 1 ((firstL labels.length E).map dI)), (83, .slice 3 1 (arrD (labels.length + 1) (nextA E i 0))), (92, .slice 3 1 ((arr labels.length (rowR E i 0) (deg E)).map dI)), (99, .slice 3 1 ((arr labels.length (rowI E i 0) (deg E)).map dI)),
     (900, .cells 243 [.d (dIs labels), .d (dEs E), .own 18, .own 92, .own 99]), (901, .ghost vs [.own 900])])
    (fun i => E.length - i) 0 (fun _ => rfl) (Nat.zero_le _) (.refl _ _) ⟨rfl, rfl, rfl, rfl, rfl, trivial⟩ ⟨rfl, rfl, rfl, slice_is hz83, slice_is hz92, slice_is hz99, rfl, rfl, trivial⟩ ?_
   intro i hi
   refine sxCode_sound c1_ok (G := G_rows) (pl := pl_rows) _ _ _ _ (by kernel_rfl) ?_
   by_cases hlt : i < E.length
   ·have hx := List.getElem?_eq_getElem hlt
    have hb := he _ (List.getElem_mem hlt)
    generalize E[i] = x at hx hb
    obtain ⟨a, b⟩ := x
    simp only at hb
    obtain ⟨a', rfl⟩ := Int.eq_ofNat_of_zero_le hb.1
    obtain ⟨b', rfl⟩ := Int.eq_ofNat_of_zero_le (show 0 ≤ b by omega)
    have hxd : (E.map dE)[i]? = some (.agg [.int .i64 (a' : Int), .int .i64 (b' : Int)]) := by rw [List.getElem?_map, hx]; rfl
    have hR := rowR_less hx
    have hI := rowI_less hx
    have hroom := row_room hR
    have hput := put_ok labels.length E hedge i 0 b' (a' : Int) (i : Int) (by omega) hR hI
    obtain ⟨p, hp, hat, h92, h99, s92, s99, s83⟩ := hput
    (repeat' ((first | refine ord_ok ?_ ?_ | refine at_da hxd (by omega) ?_ | refine ify ?_ | refine ifn ?_ | refine i6 ?_ | refine ati ?_ | refine mst ?_ | refine rmd ?_ | refine ibo (fun _ => ?_) (fun _ => ?_) | exact oend) <;> conv => whnf))
    refine call_inline 200 [(110, .d (.int .i64 i)), (109, .d (.int .i64 (E.map dE).length)), (108, .d (dEs E)), (6, .func (.func 223) [] [.own 1, .own 5]), (1, .own 1)] c1_ok (pl := pl_put) (G := G_put) Tryz.func223 rfl Tryz.ntmps223 run_put cok_put (Nat.le_of_ble_eq_true rfl) rfl ⟨rfl, rfl, rfl, rfl, rfl, trivial⟩ rfl ?_
    intro us
    (conv => whnf)
    have h83 : b' < (arrD (labels.length + 1) (nextA E i 0)).length := by rw [arrD_len]; omega
    obtain ⟨o92, ho92⟩ := ints_at h92
    obtain ⟨o99, ho99⟩ := ints_at h99
    have hb1 : 0 ≤ (p : Int) + 1 ∧ (p : Int) + 1 ≤ 65536 := by omega
    clear e0 e1 e2 hz92 hz99 hz83 hfl hroom hR hI hx hxd hedge he hn hi
    repeat' (first | (refine el_is hat ?_; conv => whnf) | (refine el_is ho92 ?_; conv => whnf) | (refine el_is ho99 ?_; conv => whnf) | (refine el_at (i := b') rfl h83 ?_; conv => whnf) | (refine el_at (i := p) rfl h92 ?_; conv => whnf) | (refine el_at (i := p) rfl h99 ?_; conv => whnf))
    refine i64_is (by omega) ?_
    (conv => whnf)
    repeat' (first | (refine el_is hat ?_; conv => whnf) | (refine el_at (i := b') rfl h83 ?_; conv => whnf))
    rw [s92, s99, s83]
    refine same_ok ?_
    (conv => whnf)
    refine i64_is (by omega) ?_
    (conv => whnf)
    exact ⟨i + 1, _, _, hlt, .refl _ _, ⟨rfl, rfl, rfl, rfl, rfl, trivial⟩, ⟨rfl, rfl, rfl, rfl, rfl, rfl, rfl, rfl, trivial⟩, by omega⟩
   ·have hie : i = E.length := by omega
    subst hie
    ((conv => whnf); repeat' ((first | refine odw ?_ | refine ify ?_ | refine ifn ?_ | refine i6 ?_ | refine ati ?_ | refine mst ?_ | refine rmd ?_ | refine ibo (fun _ => ?_) (fun _ => ?_)) <;> conv => whnf))
    refine loop_lo (ι := Nat) (fun i => i ≤ E.length) (fun i => [(128, .d (.int .i64 i)), (127, .d (.int .i64 (E.map dE).length)), (126, .d (dEs E)), (6, .func (.func 223) [] [.own 1, .own 5]), (1, .own 1)])
     (fun i => [(1, .cells 54 [.own 900]), (5, .cells 28 [.own 83]), (18, .slice 3 1 ((firstL labels.length E).map dI)), (83, .slice 3 1 (arrD (labels.length + 1) (nextA E E.length i))), (92, .slice 3 1 ((arr labels.length (rowR E E.length i) (deg E)).map dI)), (99, .slice 3 1 ((arr labels.length (rowI E E.length i) (deg E)).map dI)),
      (900, .cells 243 [.d (dIs labels), .d (dEs E), .own 18, .own 92, .own 99]), (901, .ghost vs [.own 900])])
     (fun i => E.length - i) 0 (fun _ => rfl) (Nat.zero_le _) (.refl _ _) ⟨rfl, rfl, rfl, rfl, rfl, trivial⟩ ⟨rfl, rfl, rfl, rfl, rfl, rfl, rfl, rfl, trivial⟩ ?_
    intro i hi
    refine sxCode_sound c1_ok (G := G_rows) (pl := pl_rows) _ _ _ _ (by kernel_rfl) ?_
    by_cases hlt : i < E.length
    ·have hx := List.getElem?_eq_getElem hlt
     have hb := he _ (List.getElem_mem hlt)
     generalize E[i] = x at hx hb
     obtain ⟨a, b⟩ := x
     simp only at hb
     obtain ⟨a', rfl⟩ := Int.eq_ofNat_of_zero_le hb.1
     obtain ⟨b', rfl⟩ := Int.eq_ofNat_of_zero_le (show 0 ≤ b by omega)
     have hxd : (E.map dE)[i]? = some (.agg [.int .i64 (a' : Int), .int .i64 (b' : Int)]) := by rw [List.getElem?_map, hx]; rfl
     have hR := rowR_more (k := E.length) hx
     have hI := rowI_more (k := E.length) hx
     have hroom := row_room hR
     have hput := put_ok labels.length E hedge E.length i a' (b' : Int) (i : Int) (by omega) hR hI
     obtain ⟨p, hp, hat, h92, h99, s92, s99, s83⟩ := hput
     (repeat' ((first | refine ord_ok ?_ ?_ | refine at_da hxd (by omega) ?_ | refine ify ?_ | refine ifn ?_ | refine i6 ?_ | refine ati ?_ | refine mst ?_ | refine rmd ?_ | refine ibo (fun _ => ?_) (fun _ => ?_) | exact oend) <;> conv => whnf))
     refine call_inline 200 [(128, .d (.int .i64 i)), (127, .d (.int .i64 (E.map dE).length)), (126, .d (dEs E)), (6, .func (.func 223) [] [.own 1, .own 5]), (1, .own 1)] c1_ok (pl := pl_put) (G := G_put) Tryz.func223 rfl Tryz.ntmps223 run_put cok_put (Nat.le_of_ble_eq_true rfl) rfl ⟨rfl, rfl, rfl, rfl, rfl, trivial⟩ rfl ?_
     intro us
     (conv => whnf)
     have h83 : a' < (arrD (labels.length + 1) (nextA E E.length i)).length := by rw [arrD_len]; omega
     obtain ⟨o92, ho92⟩ := ints_at h92
     obtain ⟨o99, ho99⟩ := ints_at h99
     have hb1 : 0 ≤ (p : Int) + 1 ∧ (p : Int) + 1 ≤ 65536 := by omega
     clear hroom hR hI hx hxd
     repeat' (first | (refine el_is hat ?_; conv => whnf) | (refine el_is ho92 ?_; conv => whnf) | (refine el_is ho99 ?_; conv => whnf) | (refine el_at (i := a') rfl h83 ?_; conv => whnf) | (refine el_at (i := p) rfl h92 ?_; conv => whnf) | (refine el_at (i := p) rfl h99 ?_; conv => whnf))
     refine i64_is (by omega) ?_
     (conv => whnf)
     repeat' (first | (refine el_is hat ?_; conv => whnf) | (refine el_at (i := a') rfl h83 ?_; conv => whnf))
     rw [s92, s99, s83]
     refine same_ok ?_
     (conv => whnf)
     refine i64_is (by omega) ?_
     (conv => whnf)
     exact ⟨i + 1, _, _, hlt, .refl _ _, ⟨rfl, rfl, rfl, rfl, rfl, trivial⟩, ⟨rfl, rfl, rfl, rfl, rfl, rfl, rfl, rfl, trivial⟩, by omega⟩
    ·have hie : i = E.length := by omega
     subst hie
     have en : arr labels.length (rowR E E.length E.length) (deg E) = nearL labels.length E := by
      rw [rowR_all]; exact arr_full (fun v _ => rfl)
     have ei : arr labels.length (rowI E E.length E.length) (deg E) = idsL labels.length E := by
      rw [rowI_all]
      exact arr_full (fun v _ => by rw [idsOf, List.length_append, (ids_len E v).1, (ids_len E v).2, deg, nearOf, List.length_append])
     rw [en, ei]
     ((conv => whnf); repeat' ((first | refine odw ?_ | refine ify ?_ | refine ifn ?_ | refine i6 ?_ | refine ati ?_ | refine mst ?_ | refine rmd ?_ | refine ibo (fun _ => ?_) (fun _ => ?_)) <;> conv => whnf))
     refine ⟨_, _, _, [dIs labels, dEs E, dIs (firstL labels.length E), dIs (nearL labels.length E), dIs (idsL labels.length E)], .frz 18 rfl (.frz 92 rfl (.frz 99 rfl (.refl _ _))), rfl, rfl, rfl, ?_⟩
     rfl
end Go.Proofs.YtjejpdfldmempaaGreatDoor
end
section
namespace Go.Proofs.YtjejpdfldmempaaGreatDoor
open Go.Sx Go.RowKit Go.Reg
set_option maxRecDepth 100000
def dF (c a : Int) (s : ByteArray) : Da := .iface 141 (.ref (.agg [.int .i64 c, .int .i64 a, .str s]))
def dS (s : ByteArray) (x : Da) : Da := .iface 172 (.ref (.agg [.str s, x]))
theorem fnew_pure (c a : Int) (s : ByteArray) : Pure C1 49 [.int .i64 c, .int .i64 a, .str s] (fun y => y = dF c a s) := by
 refine pure_of c1_ok (pl := []) (G := []) Tryz.func49 rfl Tryz.ntmps49 (by intro vs w; kernel_rfl) (by kernel_rfl) (by simp) ?_
 ((conv => whnf); repeat' ((first | refine odw ?_ | refine ify ?_ | refine ifn ?_ | refine i6 ?_ | refine ati ?_ | refine mst ?_ | refine rmd ?_ | refine ibo (fun _ => ?_) (fun _ => ?_)) <;> conv => whnf))
 all_goals exact rfl
theorem in_pure (s : ByteArray) (t : TypeId) (x : Da) : Pure C1 56 [.str s, .iface t x] (fun y => y = dS s ((Da.iface t x).plain)) := by
 refine pure_of c1_ok (pl := []) (G := []) Tryz.func56 rfl Tryz.ntmps56 (by intro vs w; kernel_rfl) (by kernel_rfl) (by simp) ?_
 ((conv => whnf); repeat' ((first | refine odw ?_ | refine ify ?_ | refine ifn ?_ | refine i6 ?_ | refine ati ?_ | refine mst ?_ | refine rmd ?_ | refine ibo (fun _ => ?_) (fun _ => ?_)) <;> conv => whnf))
 all_goals exact rfl
theorem in_f_pure (s : ByteArray) (c a : Int) (z : ByteArray) : Pure C1 56 [.str s, dF c a z] (fun y => y = dS s (dF c a z)) := in_pure s _ _
end Go.Proofs.YtjejpdfldmempaaGreatDoor
end
