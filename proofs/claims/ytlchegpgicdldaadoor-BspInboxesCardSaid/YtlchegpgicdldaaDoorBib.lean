/- BspInboxes: the walk. -/
import Derived.Test.YtlchegpgicdldaaDoorBmq
namespace Go.Proofs.YtlchegpgicdldaaDoor
open Go.Sx Go.RowKit Go.Reg

set_option maxRecDepth 100000
/-- a state with i letters of its worker more -/
def appI (s : ByteArray) (w : Nat) : Nat → ByteArray
  | 0 => s
  | i + 1 => appI s w i ++ letB w
theorem appI_size (s : ByteArray) (w : Nat) : ∀ i, (appI s w i).size = s.size + i
  | 0 => rfl
  | i + 1 => by
    have h := appI_size s w i
    have e : appI s w (i + 1) = appI s w i ++ letB w := rfl
    rw [e, ByteArray.size_append, h, letB_size]; omega
def stI (states : List ByteArray) (i : Nat) : List ByteArray := (List.range states.length).map fun w : Nat => appI (gW states w) w i
theorem stI_len (states : List ByteArray) (i : Nat) : (stI states i).length = states.length := by simp [stI]
theorem stI_at {states : List ByteArray} {i w : Nat} (h : w < states.length) : (stI states i)[w]? = some (appI (gW states w) w i) := by
  unfold stI; rw [List.getElem?_map, List.getElem?_range h]; rfl
theorem stI_zero (states : List ByteArray) : stI states 0 = states := by
  apply List.ext_getElem?
  intro k
  by_cases h : k < states.length
  · rw [stI_at h]
    simp only [appI, gW, List.getD_eq_getElem?_getD, List.getElem?_eq_getElem h, Option.getD_some]
  · rw [List.getElem?_eq_none (by rw [stI_len]; omega), List.getElem?_eq_none (by omega)]
theorem roundS_stI {states : List ByteArray} {i : Nat} (hs : ∀ s ∈ states, s.size ≤ 40) (hi : i ≤ 10) : roundS (stI states i) (List.replicate states.length []) = stI states (i + 1) := by
  apply List.ext_getElem?
  intro k
  by_cases h : k < states.length
  · rw [stI_at h]
    unfold roundS
    rw [List.getElem?_map, List.getElem?_range (by rw [stI_len]; exact h)]
    have e1 : gW (stI states i) k = appI (gW states k) k i := by
      show (stI states i).getD k _ = _
      rw [List.getD_eq_getElem?_getD, stI_at h]; rfl
    have e2 : gB (List.replicate states.length ([] : List ByteArray)) k = [] := by
      unfold gB; rw [List.getD_eq_getElem?_getD, List.getElem?_replicate, if_pos h]; rfl
    simp only [Option.map_some, e1, e2]
    have h1 : (gW states k).size ≤ 40 := by
      unfold gW; rw [List.getD_eq_getElem?_getD, List.getElem?_eq_getElem h]; exact hs _ (List.getElem_mem h)
    have h2 := appI_size (gW states k) k i
    have e3 : nxB k (appI (gW states k) k i) [] = appI (gW states k) k i ++ letB k := by
      show trimB (appI (gW states k) k i ++ letB k) = _
      unfold trimB
      rw [if_neg (by rw [ByteArray.size_append, letB_size]; omega)]
    rw [e3]; rfl
  · rw [List.getElem?_eq_none (by rw [roundS_len, stI_len]; omega), List.getElem?_eq_none (by rw [stI_len]; omega)]
theorem mlW_nil (want : List ByteArray) (w : Nat) : mlW [] want w = [] := rfl
theorem roundB_nil (want : List ByteArray) : roundB [] want = List.replicate want.length [] := by
  apply List.ext_getElem?
  intro k
  unfold roundB
  rw [List.getElem?_map, List.getElem?_replicate]
  by_cases h : k < want.length
  · rw [List.getElem?_range h, if_pos h]
    have : ∀ n, boxT n (mlW [] want) k = [] := fun n => by
      induction n with
      | zero => rfl
      | succ n ih => rw [boxT_succ, ih]; rfl
    simp only [Option.map_some, this]
  · rw [List.getElem?_eq_none (by simp; omega), if_neg h]; rfl
theorem RunM.noFly {want : List ByteArray} {inbox : List (List ByteArray)} {wk : List Bool} {r : Int} {B : Nat} {M : Mach} (h : RunM [] want inbox wk r B M) : M.net.flying = [] := by
  obtain ⟨S, C, h1, h2⟩ := h.inv.told
  have hS : ∀ l ∈ S, False := fun l hl => by
    obtain ⟨w, hw, e⟩ := h2.src l hl
    have := h2.own w hw
    have hm : l ∈ S.filter (fun l => l.src == (w : Int)) := List.mem_filter.2 ⟨hl, by simp [e]⟩
    rw [this] at hm
    split at hm
    · rw [mlW_nil] at hm; cases hm
    · cases hm
  cases hf : M.net.flying with
  | nil => rfl
  | cons l L => exact (hS l (h1.fly l (by rw [hf]; simp))).elim
def jobN : Da := .agg [.agg [.nils]]
theorem jobNil : Nonempty (JobB 33 jobN nxB (mailsB [])) := ⟨{
  g := 100
  meth := by intro v args w; kernel_rfl
  law := fun w r s l hw hs hl hb => (Pure.lax (.cons (.agg (.cons (.nils 1) .nil)) (.cons (.refl _) (.cons (.refl _) (.cons (.refl _) (.cons (.refl _) .nil))))) (jobwork_pure [] w r s l hw hs hl hb (by simp) (by simp))).nest }⟩
def mineS : ByteArray := ⟨#[109, 105, 110, 101]⟩
def tL (l : List ByteArray) (i : Nat) : List ByteArray := List.replicate i mineS ++ l.drop i
theorem tL_at {l : List ByteArray} {i : Nat} {s : ByteArray} (h : l[i]? = some s) : (tL l i)[i]? = some s := by
  unfold tL
  rw [List.getElem?_append_right (by simp), List.length_replicate, Nat.sub_self, List.getElem?_drop, Nat.add_zero, h]
theorem tL_set {l : List ByteArray} {i : Nat} (h : i < l.length) : ((tL l i).map dTx).set i (.str mineS) = (tL l (i + 1)).map dTx := by
  have e : (tL l i).set i mineS = tL l (i + 1) := by
    unfold tL
    rw [List.set_append_right _ _ (by simp), List.length_replicate, Nat.sub_self, List.drop_eq_getElem_cons h, List.set_cons_zero, List.replicate_succ']
    simp
  rw [← e, List.map_set]; rfl
def pl_l20i : List (Nat × Plan) := [(39, .leaf [0, 0, 0, 1, 0, 0, 0, 1, 0] [0, 1, 2, 4, 5, 6, 3, 7, 8] [0, 0, 3, 7, 0, 0, 48, 112, 255]),
  (42, .leaf [0, 2, 0, 1, 0, 0, 1, 0, 0, 0, 2, 0, 0, 0, 0] [0, 4, 5, 6, 1, 2, 3, 7, 8, 9, 11, 10, 12, 13, 14] [0, 1, 3, 7, 0, 16, 48, 127, 255, 511, 1023, 511, 4095, 8191, 16383])]
def G_l20i : List FuncId := [11, 17]
theorem cok_l20i : codeOk Tryd.prog G_l20i pl_l20i (Tryd.f3.body.getD .skip) = true := by kernel_rfl
theorem run_l20i (vs : Array Value) (w : World) : (callFunc 3 vs).run C1.P w = .ok (.enter 3 vs) w := by kernel_rfl
set_option maxHeartbeats 4000000 in
theorem linbox_pure (states : List ByteArray) (r8 w : Int) (hr : 0 ≤ r8 ∧ r8 ≤ 255) : Pure C1 3 [.list 1 (states.map dTx), .int .u8 r8, .int .i64 w] (fun y => y = .bool true) := by
  have hlm : (states.map dTx).length = states.length := List.length_map _
  refine pure_of c1_ok (pl := pl_l20i) (G := G_l20i) Tryd.func3 rfl Tryd.ntmps3 run_l20i cok_l20i (by simp) ?_
  by_cases h1 : states.length < 1
  · (conv => whnf)
    (repeat' ((first | refine ord_ok (by (conv => whnf); (repeat' ((first | refine call_eq rfl lalive20 ?_ | refine ify ?_ | refine ifn ?_ | refine i6 ?_ | refine ati ?_ | refine mst ?_ | refine rmd ?_ | refine ibo (fun _ => ?_) (fun _ => ?_)) <;> conv => whnf)); (all_goals (repeat' (first | exact trivial | exact rfl | refine And.intro ?_ ?_)))) ?_ | refine call_eq rfl lalive20 ?_ | refine ify ?_ | refine ifn ?_ | refine i6 ?_ | refine ati ?_ | refine mst ?_ | refine rmd ?_ | refine ibo (fun _ => ?_) (fun _ => ?_)) <;> conv => whnf))
    exact rfl
  by_cases h2 : 8 < states.length
  · (conv => whnf)
    (repeat' ((first | refine ord_ok (by (conv => whnf); (repeat' ((first | refine call_eq rfl lalive20 ?_ | refine ify ?_ | refine ifn ?_ | refine i6 ?_ | refine ati ?_ | refine mst ?_ | refine rmd ?_ | refine ibo (fun _ => ?_) (fun _ => ?_)) <;> conv => whnf)); (all_goals (repeat' (first | exact trivial | exact rfl | refine And.intro ?_ ?_)))) ?_ | refine call_eq rfl lalive20 ?_ | refine ify ?_ | refine ifn ?_ | refine i6 ?_ | refine ati ?_ | refine mst ?_ | refine rmd ?_ | refine ibo (fun _ => ?_) (fun _ => ?_)) <;> conv => whnf))
    exact rfl
  (conv => whnf)
  (repeat' ((first | refine ord_ok (by (conv => whnf); (repeat' ((first | refine call_eq rfl lalive20 ?_ | refine ify ?_ | refine ifn ?_ | refine i6 ?_ | refine ati ?_ | refine mst ?_ | refine rmd ?_ | refine ibo (fun _ => ?_) (fun _ => ?_)) <;> conv => whnf)); (all_goals (repeat' (first | exact trivial | exact rfl | refine And.intro ?_ ?_)))) ?_ | refine call_eq rfl lalive20 ?_ | refine ify ?_ | refine ifn ?_ | refine i6 ?_ | refine ati ?_ | refine mst ?_ | refine rmd ?_ | refine ibo (fun _ => ?_) (fun _ => ?_)) <;> conv => whnf))
  refine loop_lo (ι := Nat) (fun i => i ≤ states.length ∧ ∀ s ∈ states.take i, s.size ≤ 40) (fun i => [(7, .d (.int .i64 (i : Nat))), (2, .d (.int .i64 w)), (1, .d (.int .u8 r8)), (0, .d (.list 1 (states.map dTx)))]) (fun _ => []) (fun i => states.length - i) 0 (fun _ => rfl) ⟨by omega, by simp⟩ (.refl _ _) ⟨rfl, rfl, rfl, rfl, trivial⟩ trivial ?_
  rintro i ⟨hi, hsz⟩
  refine sxCode_sound c1_ok (G := G_l20i) (pl := pl_l20i) _ _ _ _ (by kernel_rfl) ?_
  by_cases hil : i < states.length
  · have hx := List.getElem?_eq_getElem hil
    have htk : states.take (i + 1) = states.take i ++ [states[i]] := by rw [List.take_add_one, hx]; rfl
    generalize states[i] = s at hx htk
    have hxd : (states.map dTx)[i]? = some (.str s) := by rw [List.getElem?_map, hx]; rfl
    by_cases h40 : 40 < s.size
    · (conv => whnf)
      (repeat' ((first | refine ord_ok (by (conv => whnf); (repeat' ((first | refine at_da hxd rfl ?_ | refine ify ?_ | refine ifn ?_ | refine i6 ?_ | refine ati ?_ | refine mst ?_ | refine rmd ?_ | refine ibo (fun _ => ?_) (fun _ => ?_)) <;> conv => whnf)); (all_goals (repeat' (first | exact trivial | exact rfl | refine And.intro ?_ ?_)))) ?_ | refine at_da hxd rfl ?_ | refine ify ?_ | refine ifn ?_ | refine i6 ?_ | refine ati ?_ | refine mst ?_ | refine rmd ?_ | refine ibo (fun _ => ?_) (fun _ => ?_)) <;> conv => whnf))
      exact rfl
    · (conv => whnf)
      (repeat' ((first | refine ord_ok (by (conv => whnf); (repeat' ((first | refine at_da hxd rfl ?_ | refine ify ?_ | refine ifn ?_ | refine i6 ?_ | refine ati ?_ | refine mst ?_ | refine rmd ?_ | refine ibo (fun _ => ?_) (fun _ => ?_)) <;> conv => whnf)); (all_goals (repeat' (first | exact trivial | exact rfl | refine And.intro ?_ ?_)))) ?_ | refine at_da hxd rfl ?_ | refine ify ?_ | refine ifn ?_ | refine i6 ?_ | refine ati ?_ | refine mst ?_ | refine rmd ?_ | refine ibo (fun _ => ?_) (fun _ => ?_)) <;> conv => whnf))
      refine ⟨i + 1, _, _, ⟨hil, fun z hz => ?_⟩, .refl _ _, ⟨rfl, rfl, rfl, rfl, trivial⟩, trivial, by omega⟩
      rw [htk] at hz
      rcases List.mem_append.1 hz with hz | hz
      · exact hsz z hz
      · rw [List.mem_singleton.1 hz]; omega
  have hsa : ∀ s ∈ states, s.size ≤ 40 := fun s hs => hsz s (by rw [List.take_of_length_le (by omega)]; exact hs)
  have hnew := new_ok 33 jobN states (by omega) (by omega)
  have h0 := M0_run [] 33 jobN states jobNil (by omega) (by omega) (fun s hs => by have := hsa s hs; omega) (by simp) (by simp)
  obtain ⟨k, hk, hk5⟩ : ∃ k : Nat, r8.tmod 6 = k ∧ k ≤ 5 := ⟨(r8 % 6).toNat, by rw [Int.tmod_eq_emod_of_nonneg hr.1]; omega, by omega⟩
  (conv => whnf)
  (repeat' ((first | refine ord_ok (by (conv => whnf); (repeat' ((first | refine call_req [] [] hnew rfl rfl rfl rfl rfl rfl rfl ?_ | refine ify ?_ | refine ifn ?_ | refine i6 ?_ | refine ati ?_ | refine mst ?_ | refine rmd ?_ | refine ibo (fun _ => ?_) (fun _ => ?_)) <;> conv => whnf)); (all_goals (repeat' (first | exact trivial | exact rfl | refine And.intro ?_ ?_)))) ?_ | refine call_req [] [] hnew rfl rfl rfl rfl rfl rfl rfl ?_ | refine ify ?_ | refine ifn ?_ | refine i6 ?_ | refine ati ?_ | refine mst ?_ | refine rmd ?_ | refine ibo (fun _ => ?_) (fun _ => ?_)) <;> conv => whnf))
  rw [hk]
  refine loop_lo (ι := Nat × Mach) (fun x => x.1 ≤ k ∧ RunM [] (stI states x.1) (List.replicate states.length []) (List.replicate states.length false) x.1 0 x.2) (fun x => [(11, .d (.int .i64 (x.1 : Nat))), (10, .d (.int .i64 (k : Nat))), (8, .own 900), (2, .d (.int .i64 w)), (0, .d (.list 1 (states.map dTx)))]) (fun x => sM x.2) (fun x => k - x.1) (0, M0 33 jobN states) (fun _ => rfl) ⟨by omega, by rw [stI_zero]; exact h0⟩ (.refl _ _) ⟨rfl, rfl, rfl, rfl, rfl, trivial⟩ ⟨rfl, rfl, rfl, rfl, rfl, rfl, trivial⟩ ?_
  rintro ⟨i, M⟩ ⟨hi, hM⟩
  simp only at hi hM
  refine sxCode_sound c1_ok (G := G_l20i) (pl := pl_l20i) _ _ _ _ (by kernel_rfl) ?_
  by_cases hik : i < k
  · have hfi := finish_ok hM (by omega) (by omega)
    rw [roundS_stI hsa (by omega), roundB_nil, stI_len] at hfi
    ((conv => whnf); repeat' ((first | refine odw ?_ | refine ify ?_ | refine ifn ?_ | refine i6 ?_ | refine ati ?_ | refine mst ?_ | refine rmd ?_ | refine ibo (fun _ => ?_) (fun _ => ?_)) <;> conv => whnf))
    refine call_recx [] [900, 901, 902, 903, 904, 905] (y := fun _ : Mach => .d .nili) (τ := sM) (P := fun M => RunM [] (stI states (i + 1)) (List.replicate states.length []) (List.replicate states.length false) (i + 1) 0 M) hfi ?_ rfl rfl rfl rfl rfl rfl (by intro _; exact rfl) ?_
    · rintro d σ1 ⟨rfl, M', rfl, h⟩; exact ⟨M', rfl, rfl, h⟩
    intro M1 hM1
    ((conv => whnf); repeat' ((first | refine odw ?_ | refine ify ?_ | refine ifn ?_ | refine i6 ?_ | refine ati ?_ | refine mst ?_ | refine rmd ?_ | refine ibo (fun _ => ?_) (fun _ => ?_)) <;> conv => whnf))
    exact ⟨(i + 1, M1), _, _, ⟨hik, hM1⟩, .refl _ _, ⟨rfl, rfl, rfl, rfl, rfl, trivial⟩, ⟨rfl, rfl, rfl, rfl, rfl, rfl, trivial⟩, by simp only; omega⟩
  have hik2 : i = k := by omega
  subst hik2
  have hst := mstates_ok M (by rw [hM.len, stI_len]; omega)
  have hms : M.states = stI states i := hM.inv.sts
  rw [hms] at hst
  have hsl : ((stI states i).map dTx).length = states.length := by rw [List.length_map, stI_len]
  (conv => whnf)
  (repeat' ((first | refine ord_ok (by (conv => whnf); (repeat' ((first | refine call_req [] [900, 901, 902, 903, 904, 905] hst rfl rfl rfl rfl rfl rfl rfl ?_ | refine ify ?_ | refine ifn ?_ | refine i6 ?_ | refine ati ?_ | refine mst ?_ | refine rmd ?_ | refine ibo (fun _ => ?_) (fun _ => ?_)) <;> conv => whnf)); (all_goals (repeat' (first | exact trivial | exact rfl | refine And.intro ?_ ?_)))) ?_ | refine call_req [] [900, 901, 902, 903, 904, 905] hst rfl rfl rfl rfl rfl rfl rfl ?_ | refine ify ?_ | refine ifn ?_ | refine i6 ?_ | refine ati ?_ | refine mst ?_ | refine rmd ?_ | refine ibo (fun _ => ?_) (fun _ => ?_)) <;> conv => whnf))
  refine loop_lo (ι := Nat) (fun j => j ≤ states.length) (fun j => [(13, .d (.int .i64 (j : Nat))), (12, .d (.list 1 ((stI states i).map dTx))), (10, .d (.int .i64 (i : Nat))), (8, .own 900), (2, .d (.int .i64 w)), (0, .d (.list 1 (states.map dTx)))]) (fun _ => sM M) (fun j => states.length - j) 0 (fun _ => rfl) (by omega) (.frz 907 rfl (.refl _ _)) ⟨rfl, rfl, rfl, rfl, rfl, rfl, trivial⟩ ⟨rfl, rfl, rfl, rfl, rfl, rfl, trivial⟩ ?_
  intro j hj
  refine sxCode_sound c1_ok (G := G_l20i) (pl := pl_l20i) _ _ _ _ (by kernel_rfl) ?_
  by_cases hjl : j < states.length
  · have hx := List.getElem?_eq_getElem hjl
    have hgw : gW states j = states[j] := by unfold gW; rw [List.getD_eq_getElem?_getD, hx]; rfl
    have hs40 := hsa _ (List.getElem_mem hjl)
    have hsj := stI_at (i := i) hjl
    rw [hgw] at hsj
    generalize states[j] = s at hx hsj hs40
    have hxd : (states.map dTx)[j]? = some (.str s) := by rw [List.getElem?_map, hx]; rfl
    have hsd : ((stI states i).map dTx)[j]? = some (.str (appI s j i)) := by rw [List.getElem?_map, hsj]; rfl
    (conv => whnf)
    (repeat' ((first | refine ord_ok (by (conv => whnf); (repeat' ((first | refine at_da hxd rfl ?_ | refine ify ?_ | refine ifn ?_ | refine i6 ?_ | refine ati ?_ | refine mst ?_ | refine rmd ?_ | refine ibo (fun _ => ?_) (fun _ => ?_)) <;> conv => whnf)); (all_goals (repeat' (first | exact trivial | exact rfl | refine And.intro ?_ ?_)))) ?_ | refine at_da hxd rfl ?_ | refine ify ?_ | refine ifn ?_ | refine i6 ?_ | refine ati ?_ | refine mst ?_ | refine rmd ?_ | refine ibo (fun _ => ?_) (fun _ => ?_)) <;> conv => whnf))
    refine loop_lo (ι := Nat) (fun r => r ≤ i) (fun r => [(15, .d (.int .i64 (r : Nat))), (14, .d (.str (appI s j r))), (13, .d (.int .i64 (j : Nat))), (12, .d (.list 1 ((stI states i).map dTx))), (10, .d (.int .i64 (i : Nat))), (8, .own 900), (2, .d (.int .i64 w)), (0, .d (.list 1 (states.map dTx)))]) (fun _ => sM M) (fun r => i - r) 0 (fun _ => rfl) (by omega) (.refl _ _) ⟨rfl, rfl, rfl, rfl, rfl, rfl, rfl, rfl, trivial⟩ ⟨rfl, rfl, rfl, rfl, rfl, rfl, trivial⟩ ?_
    intro r hri
    refine sxCode_sound c1_ok (G := G_l20i) (pl := pl_l20i) _ _ _ _ (by kernel_rfl) ?_
    have hlet := letter_pure j (by omega)
    have hsz2 := appI_size s j r
    by_cases hrl : r < i
    · (conv => whnf)
      (repeat' ((first | refine ord_ok (by (conv => whnf); (repeat' ((first | refine call_eq rfl hlet ?_ | refine catB_ok (a := appI s j r) (b := letB j) (by have := letB_size j; omega) ?_ | refine ify ?_ | refine ifn ?_ | refine i6 ?_ | refine ati ?_ | refine mst ?_ | refine rmd ?_ | refine ibo (fun _ => ?_) (fun _ => ?_)) <;> conv => whnf)); (all_goals (repeat' (first | exact trivial | exact rfl | refine And.intro ?_ ?_)))) ?_ | refine call_eq rfl hlet ?_ | refine catB_ok (a := appI s j r) (b := letB j) (by have := letB_size j; omega) ?_ | refine ify ?_ | refine ifn ?_ | refine i6 ?_ | refine ati ?_ | refine mst ?_ | refine rmd ?_ | refine ibo (fun _ => ?_) (fun _ => ?_)) <;> conv => whnf))
      exact ⟨r + 1, _, _, hrl, .refl _ _, ⟨rfl, rfl, rfl, rfl, rfl, rfl, rfl, rfl, trivial⟩, ⟨rfl, rfl, rfl, rfl, rfl, rfl, trivial⟩, by omega⟩
    · have : r = i := by omega
      subst this
      (conv => whnf)
      (repeat' ((first | refine ord_ok (by (conv => whnf); (repeat' ((first | refine at_da hsd rfl ?_ | refine ify ?_ | refine ifn ?_ | refine i6 ?_ | refine ati ?_ | refine mst ?_ | refine rmd ?_ | refine ibo (fun _ => ?_) (fun _ => ?_)) <;> conv => whnf)); (all_goals (repeat' (first | exact trivial | exact rfl | refine And.intro ?_ ?_)))) ?_ | refine at_da hsd rfl ?_ | refine ify ?_ | refine ifn ?_ | refine i6 ?_ | refine ati ?_ | refine mst ?_ | refine rmd ?_ | refine ibo (fun _ => ?_) (fun _ => ?_)) <;> conv => whnf))
      exact ⟨j + 1, _, _, hjl, .refl _ _, ⟨rfl, rfl, rfl, rfl, rfl, rfl, trivial⟩, ⟨rfl, rfl, rfl, rfl, rfl, rfl, trivial⟩, by omega⟩
  -- behind the first looking-through
  have hs0 := stI_at (states := states) (i := i) (w := 0) (by omega)
  have hs0d : ((stI states i).map dTx)[0]? = some (.str (appI (gW states 0) 0 i)) := by rw [List.getElem?_map, hs0]; rfl
  by_cases hin : 0 ≤ w ∧ w < states.length
  · obtain ⟨hw0, hwn⟩ := hin
    obtain ⟨v, rfl⟩ := Int.eq_ofNat_of_zero_le hw0
    have hvl : v < states.length := by omega
    have hwk : (List.replicate states.length false)[v]? = some false := by rw [List.getElem?_replicate, if_pos hvl]
    have hwork := work_inv hM (by omega) hwk
    have hM1 := hM.did hwk
    generalize M.did v (nxB v (gW (stI states i) v) (gB (List.replicate states.length []) v)) (mlW [] (stI states i) v) = M1 at hwork hM1
    have hwk1 : M1.worked[v]? = some true := by rw [hM1.inv.wkd, List.getElem?_set, if_pos rfl, if_pos (by simpa using hvl)]
    have hl1 : M1.states.length = states.length := by rw [hM1.len, stI_len]
    have hth := mwork_there M1 v (by omega) hwk1
    have hst1 := mstates_ok M1 (by omega)
    rw [show M1.states = stI states i from hM1.inv.sts] at hst1
    have hwd := mworked_ok M1 v true (by omega) hwk1
    have hfl := mfly_ok M1 (by rw [hM1.noFly]; simp)
    rw [hM1.noFly] at hfl
    have hrq : ∀ v, Pure C1 17 [.ref (mD M1 v)] (fun y => y = .int .i64 i) := fun v => by have := mround_q M1 v; rw [hM1.inv.rd] at this; exact this
    have hsq : ∀ v, MakeSl C1 11 [.ref (mD M1 v)] 9 1 (fun ds => ds = (stI states i).map dTx) := fun v => by have := mstates_q M1 (by omega) v; rw [show M1.states = stI states i from hM1.inv.sts] at this; exact this
    (conv => whnf)
    (repeat' ((first | refine ord_ok (by (conv => whnf); (repeat' ((first | refine if_iff (by decide) ?_ | refine call_lax 16 rfl (.prop true (decide_eq_true (by omega))) ?_ | refine call_req [] [900, 901, 902, 903, 904, 905] hwork rfl rfl rfl rfl rfl rfl rfl ?_ | refine call_eq rfl code_nil_pure ?_ | refine call_req [] [900, 901, 902, 903, 904, 905] hth rfl rfl rfl rfl rfl rfl rfl ?_ | refine call_eq rfl (code_pure 4 0 workerS) ?_ | refine call_req [(910, 907)] [900, 901, 902, 903, 904, 905] hst1 rfl rfl rfl rfl rfl rfl rfl ?_ | refine call_req [] [900, 901, 902, 903, 904, 905] hwd rfl rfl rfl rfl rfl rfl rfl ?_ | refine call_req [] [900, 901, 902, 903, 904, 905] hfl rfl rfl rfl rfl rfl rfl rfl ?_ | refine ify ?_ | refine ifn ?_ | refine i6 ?_ | refine ati ?_ | refine mst ?_ | refine rmd ?_ | refine ibo (fun _ => ?_) (fun _ => ?_)) <;> conv => whnf)); (all_goals (repeat' (first | exact trivial | exact rfl | refine And.intro ?_ ?_)))) ?_ | refine if_iff (by decide) ?_ | refine call_lax 16 rfl (.prop true (decide_eq_true (by omega))) ?_ | refine call_req [] [900, 901, 902, 903, 904, 905] hwork rfl rfl rfl rfl rfl rfl rfl ?_ | refine call_eq rfl code_nil_pure ?_ | refine call_req [] [900, 901, 902, 903, 904, 905] hth rfl rfl rfl rfl rfl rfl rfl ?_ | refine call_eq rfl (code_pure 4 0 workerS) ?_ | refine call_req [(910, 907)] [900, 901, 902, 903, 904, 905] hst1 rfl rfl rfl rfl rfl rfl rfl ?_ | refine call_req [] [900, 901, 902, 903, 904, 905] hwd rfl rfl rfl rfl rfl rfl rfl ?_ | refine call_req [] [900, 901, 902, 903, 904, 905] hfl rfl rfl rfl rfl rfl rfl rfl ?_ | refine ify ?_ | refine ifn ?_ | refine i6 ?_ | refine ati ?_ | refine mst ?_ | refine rmd ?_ | refine ibo (fun _ => ?_) (fun _ => ?_)) <;> conv => whnf))
    have htl : ∀ j, ((tL (stI states i) j).map dTx).length = j + (states.length - j) := fun j => by rw [List.length_map]; unfold tL; rw [List.length_append, List.length_replicate, List.length_drop, stI_len]
    refine loop_lo (ι := Nat) (fun j => j ≤ states.length) (fun j => [(20, .d (.int .i64 (j : Nat))), (19, .own 910), (12, .d (.list 1 ((stI states i).map dTx))), (10, .d (.int .i64 (i : Nat))), (8, .own 900)]) (fun j => sM M1 ++ [((910 : Nat), Own.slice 9 1 ((tL (stI states i) j).map dTx))]) (fun j => states.length - j) 0 (fun _ => rfl) (by omega) (.refl _ _) ⟨rfl, rfl, rfl, rfl, rfl, trivial⟩ ⟨rfl, rfl, rfl, rfl, rfl, rfl, rfl, trivial⟩ ?_
    intro j hj
    refine sxCode_sound c1_ok (G := G_l20i) (pl := pl_l20i) _ _ _ _ (by kernel_rfl) ?_
    have htj := htl j
    by_cases hjl : j < states.length
    · have hsj := stI_at (i := i) hjl
      have htd : ((tL (stI states i) j).map dTx)[j]? = some (.str (appI (gW states j) j i)) := by rw [List.getElem?_map, tL_at hsj]; rfl
      have hsd : ((stI states i).map dTx)[j]? = some (.str (appI (gW states j) j i)) := by rw [List.getElem?_map, hsj]; rfl
      have hset := tL_set (l := stI states i) (i := j) (by rw [stI_len]; exact hjl)
      have g1 : j < ((tL (stI states i) j).map dTx).length := by omega
      (conv => whnf)
      (repeat' ((first | refine ord_ok (by (conv => whnf); (repeat' ((first | refine el_at (i := j) rfl g1 ?_ | refine el_is htd ?_ | refine at_da hsd rfl ?_ | refine ify ?_ | refine ifn ?_ | refine i6 ?_ | refine ati ?_ | refine mst ?_ | refine rmd ?_ | refine ibo (fun _ => ?_) (fun _ => ?_)) <;> conv => whnf)); (all_goals (repeat' (first | exact trivial | exact rfl | refine And.intro ?_ ?_)))) ?_ | refine el_at (i := j) rfl g1 ?_ | refine el_is htd ?_ | refine at_da hsd rfl ?_ | refine ify ?_ | refine ifn ?_ | refine i6 ?_ | refine ati ?_ | refine mst ?_ | refine rmd ?_ | refine ibo (fun _ => ?_) (fun _ => ?_)) <;> conv => whnf))
      exact ⟨j + 1, _, _, hjl, .refl _ _, ⟨rfl, rfl, rfl, rfl, rfl, trivial⟩, ⟨rfl, rfl, rfl, rfl, rfl, rfl, by rw [← hset]; rfl, trivial⟩, by omega⟩
    · have g0 : 0 < ((stI states i).map dTx).length := by omega
      (conv => whnf)
      (repeat' ((first | refine ord_ok (by (conv => whnf); (repeat' ((first | refine call_mqs (M := M1) 911 rfl ⟨rfl, rfl, rfl, rfl, rfl⟩ rfl hsq (dTx_flats _) ?_ | refine call_mq (M := M1) ⟨rfl, rfl, rfl, rfl, rfl⟩ rfl hrq rfl ?_ | refine el_at (i := 0) rfl g0 ?_ | refine el_is hs0d ?_ | refine at_da hs0d rfl ?_ | refine ify ?_ | refine ifn ?_ | refine i6 ?_ | refine ati ?_ | refine mst ?_ | refine rmd ?_ | refine ibo (fun _ => ?_) (fun _ => ?_)) <;> conv => whnf)); (all_goals (repeat' (first | exact trivial | exact rfl | refine And.intro ?_ ?_)))) ?_ | refine call_mqs (M := M1) 911 rfl ⟨rfl, rfl, rfl, rfl, rfl⟩ rfl hsq (dTx_flats _) ?_ | refine call_mq (M := M1) ⟨rfl, rfl, rfl, rfl, rfl⟩ rfl hrq rfl ?_ | refine el_at (i := 0) rfl g0 ?_ | refine el_is hs0d ?_ | refine at_da hs0d rfl ?_ | refine ify ?_ | refine ifn ?_ | refine i6 ?_ | refine ati ?_ | refine mst ?_ | refine rmd ?_ | refine ibo (fun _ => ?_) (fun _ => ?_)) <;> conv => whnf))
      exact congrArg Da.bool (decide_eq_true rfl)
  · have hw2 : w < 0 ∨ M.states.length ≤ w := by rw [hms, stI_len]; omega
    have hno := mwork_no M w hw2
    have hst1 := hst
    have hwd := mworked_no M w hw2
    have hfl := mfly_ok M (by rw [hM.noFly]; simp)
    rw [hM.noFly] at hfl
    have hrq : ∀ v, Pure C1 17 [.ref (mD M v)] (fun y => y = .int .i64 i) := fun v => by have := mround_q M v; rw [hM.inv.rd] at this; exact this
    have hsq : ∀ v, MakeSl C1 11 [.ref (mD M v)] 9 1 (fun ds => ds = (stI states i).map dTx) := fun v => by have := mstates_q M (by rw [hM.len, stI_len]; omega) v; rw [hms] at this; exact this
    by_cases hw0 : 0 ≤ w
    · have hwn : (states.length : Int) ≤ w := by omega
      (conv => whnf)
      (repeat' ((first | refine ord_ok (by (conv => whnf); (repeat' ((first | refine if_iff (by decide) ?_ | refine call_lax 16 rfl (.prop false (decide_eq_false (by omega))) ?_ | refine call_req [] [900, 901, 902, 903, 904, 905] hno rfl rfl rfl rfl rfl rfl rfl ?_ | refine call_eq rfl (code_pure 3 0 workerS) ?_ | refine call_req [(910, 907)] [900, 901, 902, 903, 904, 905] hst1 rfl rfl rfl rfl rfl rfl rfl ?_ | refine call_req [] [900, 901, 902, 903, 904, 905] hwd rfl rfl rfl rfl rfl rfl rfl ?_ | refine call_req [] [900, 901, 902, 903, 904, 905] hfl rfl rfl rfl rfl rfl rfl rfl ?_ | refine ify ?_ | refine ifn ?_ | refine i6 ?_ | refine ati ?_ | refine mst ?_ | refine rmd ?_ | refine ibo (fun _ => ?_) (fun _ => ?_)) <;> conv => whnf)); (all_goals (repeat' (first | exact trivial | exact rfl | refine And.intro ?_ ?_)))) ?_ | refine if_iff (by decide) ?_ | refine call_lax 16 rfl (.prop false (decide_eq_false (by omega))) ?_ | refine call_req [] [900, 901, 902, 903, 904, 905] hno rfl rfl rfl rfl rfl rfl rfl ?_ | refine call_eq rfl (code_pure 3 0 workerS) ?_ | refine call_req [(910, 907)] [900, 901, 902, 903, 904, 905] hst1 rfl rfl rfl rfl rfl rfl rfl ?_ | refine call_req [] [900, 901, 902, 903, 904, 905] hwd rfl rfl rfl rfl rfl rfl rfl ?_ | refine call_req [] [900, 901, 902, 903, 904, 905] hfl rfl rfl rfl rfl rfl rfl rfl ?_ | refine ify ?_ | refine ifn ?_ | refine i6 ?_ | refine ati ?_ | refine mst ?_ | refine rmd ?_ | refine ibo (fun _ => ?_) (fun _ => ?_)) <;> conv => whnf))
      have htl : ∀ j, ((tL (stI states i) j).map dTx).length = j + (states.length - j) := fun j => by rw [List.length_map]; unfold tL; rw [List.length_append, List.length_replicate, List.length_drop, stI_len]
      refine loop_lo (ι := Nat) (fun j => j ≤ states.length) (fun j => [(20, .d (.int .i64 (j : Nat))), (19, .own 910), (12, .d (.list 1 ((stI states i).map dTx))), (10, .d (.int .i64 (i : Nat))), (8, .own 900)]) (fun j => sM M ++ [((910 : Nat), Own.slice 9 1 ((tL (stI states i) j).map dTx))]) (fun j => states.length - j) 0 (fun _ => rfl) (by omega) (.refl _ _) ⟨rfl, rfl, rfl, rfl, rfl, trivial⟩ ⟨rfl, rfl, rfl, rfl, rfl, rfl, rfl, trivial⟩ ?_
      intro j hj
      refine sxCode_sound c1_ok (G := G_l20i) (pl := pl_l20i) _ _ _ _ (by kernel_rfl) ?_
      have htj := htl j
      by_cases hjl : j < states.length
      · have hsj := stI_at (i := i) hjl
        have htd : ((tL (stI states i) j).map dTx)[j]? = some (.str (appI (gW states j) j i)) := by rw [List.getElem?_map, tL_at hsj]; rfl
        have hsd : ((stI states i).map dTx)[j]? = some (.str (appI (gW states j) j i)) := by rw [List.getElem?_map, hsj]; rfl
        have hset := tL_set (l := stI states i) (i := j) (by rw [stI_len]; exact hjl)
        have g1 : j < ((tL (stI states i) j).map dTx).length := by omega
        (conv => whnf)
        (repeat' ((first | refine ord_ok (by (conv => whnf); (repeat' ((first | refine el_at (i := j) rfl g1 ?_ | refine el_is htd ?_ | refine at_da hsd rfl ?_ | refine ify ?_ | refine ifn ?_ | refine i6 ?_ | refine ati ?_ | refine mst ?_ | refine rmd ?_ | refine ibo (fun _ => ?_) (fun _ => ?_)) <;> conv => whnf)); (all_goals (repeat' (first | exact trivial | exact rfl | refine And.intro ?_ ?_)))) ?_ | refine el_at (i := j) rfl g1 ?_ | refine el_is htd ?_ | refine at_da hsd rfl ?_ | refine ify ?_ | refine ifn ?_ | refine i6 ?_ | refine ati ?_ | refine mst ?_ | refine rmd ?_ | refine ibo (fun _ => ?_) (fun _ => ?_)) <;> conv => whnf))
        exact ⟨j + 1, _, _, hjl, .refl _ _, ⟨rfl, rfl, rfl, rfl, rfl, trivial⟩, ⟨rfl, rfl, rfl, rfl, rfl, rfl, by rw [← hset]; rfl, trivial⟩, by omega⟩
      · have g0 : 0 < ((stI states i).map dTx).length := by omega
        (conv => whnf)
        (repeat' ((first | refine ord_ok (by (conv => whnf); (repeat' ((first | refine call_mqs (M := M) 911 rfl ⟨rfl, rfl, rfl, rfl, rfl⟩ rfl hsq (dTx_flats _) ?_ | refine call_mq (M := M) ⟨rfl, rfl, rfl, rfl, rfl⟩ rfl hrq rfl ?_ | refine el_at (i := 0) rfl g0 ?_ | refine el_is hs0d ?_ | refine at_da hs0d rfl ?_ | refine ify ?_ | refine ifn ?_ | refine i6 ?_ | refine ati ?_ | refine mst ?_ | refine rmd ?_ | refine ibo (fun _ => ?_) (fun _ => ?_)) <;> conv => whnf)); (all_goals (repeat' (first | exact trivial | exact rfl | refine And.intro ?_ ?_)))) ?_ | refine call_mqs (M := M) 911 rfl ⟨rfl, rfl, rfl, rfl, rfl⟩ rfl hsq (dTx_flats _) ?_ | refine call_mq (M := M) ⟨rfl, rfl, rfl, rfl, rfl⟩ rfl hrq rfl ?_ | refine el_at (i := 0) rfl g0 ?_ | refine el_is hs0d ?_ | refine at_da hs0d rfl ?_ | refine ify ?_ | refine ifn ?_ | refine i6 ?_ | refine ati ?_ | refine mst ?_ | refine rmd ?_ | refine ibo (fun _ => ?_) (fun _ => ?_)) <;> conv => whnf))
        exact congrArg Da.bool (decide_eq_true rfl)
    · (conv => whnf)
      (repeat' ((first | refine ord_ok (by (conv => whnf); (repeat' ((first | refine if_iff (by decide) ?_ | refine call_lax 16 rfl (.prop false (decide_eq_false (by omega))) ?_ | refine call_req [] [900, 901, 902, 903, 904, 905] hno rfl rfl rfl rfl rfl rfl rfl ?_ | refine call_eq rfl (code_pure 3 0 workerS) ?_ | refine call_req [(910, 907)] [900, 901, 902, 903, 904, 905] hst1 rfl rfl rfl rfl rfl rfl rfl ?_ | refine call_req [] [900, 901, 902, 903, 904, 905] hwd rfl rfl rfl rfl rfl rfl rfl ?_ | refine call_req [] [900, 901, 902, 903, 904, 905] hfl rfl rfl rfl rfl rfl rfl rfl ?_ | refine ify ?_ | refine ifn ?_ | refine i6 ?_ | refine ati ?_ | refine mst ?_ | refine rmd ?_ | refine ibo (fun _ => ?_) (fun _ => ?_)) <;> conv => whnf)); (all_goals (repeat' (first | exact trivial | exact rfl | refine And.intro ?_ ?_)))) ?_ | refine if_iff (by decide) ?_ | refine call_lax 16 rfl (.prop false (decide_eq_false (by omega))) ?_ | refine call_req [] [900, 901, 902, 903, 904, 905] hno rfl rfl rfl rfl rfl rfl rfl ?_ | refine call_eq rfl (code_pure 3 0 workerS) ?_ | refine call_req [(910, 907)] [900, 901, 902, 903, 904, 905] hst1 rfl rfl rfl rfl rfl rfl rfl ?_ | refine call_req [] [900, 901, 902, 903, 904, 905] hwd rfl rfl rfl rfl rfl rfl rfl ?_ | refine call_req [] [900, 901, 902, 903, 904, 905] hfl rfl rfl rfl rfl rfl rfl rfl ?_ | refine ify ?_ | refine ifn ?_ | refine i6 ?_ | refine ati ?_ | refine mst ?_ | refine rmd ?_ | refine ibo (fun _ => ?_) (fun _ => ?_)) <;> conv => whnf))
      have htl : ∀ j, ((tL (stI states i) j).map dTx).length = j + (states.length - j) := fun j => by rw [List.length_map]; unfold tL; rw [List.length_append, List.length_replicate, List.length_drop, stI_len]
      refine loop_lo (ι := Nat) (fun j => j ≤ states.length) (fun j => [(20, .d (.int .i64 (j : Nat))), (19, .own 910), (12, .d (.list 1 ((stI states i).map dTx))), (10, .d (.int .i64 (i : Nat))), (8, .own 900)]) (fun j => sM M ++ [((910 : Nat), Own.slice 9 1 ((tL (stI states i) j).map dTx))]) (fun j => states.length - j) 0 (fun _ => rfl) (by omega) (.refl _ _) ⟨rfl, rfl, rfl, rfl, rfl, trivial⟩ ⟨rfl, rfl, rfl, rfl, rfl, rfl, rfl, trivial⟩ ?_
      intro j hj
      refine sxCode_sound c1_ok (G := G_l20i) (pl := pl_l20i) _ _ _ _ (by kernel_rfl) ?_
      have htj := htl j
      by_cases hjl : j < states.length
      · have hsj := stI_at (i := i) hjl
        have htd : ((tL (stI states i) j).map dTx)[j]? = some (.str (appI (gW states j) j i)) := by rw [List.getElem?_map, tL_at hsj]; rfl
        have hsd : ((stI states i).map dTx)[j]? = some (.str (appI (gW states j) j i)) := by rw [List.getElem?_map, hsj]; rfl
        have hset := tL_set (l := stI states i) (i := j) (by rw [stI_len]; exact hjl)
        have g1 : j < ((tL (stI states i) j).map dTx).length := by omega
        (conv => whnf)
        (repeat' ((first | refine ord_ok (by (conv => whnf); (repeat' ((first | refine el_at (i := j) rfl g1 ?_ | refine el_is htd ?_ | refine at_da hsd rfl ?_ | refine ify ?_ | refine ifn ?_ | refine i6 ?_ | refine ati ?_ | refine mst ?_ | refine rmd ?_ | refine ibo (fun _ => ?_) (fun _ => ?_)) <;> conv => whnf)); (all_goals (repeat' (first | exact trivial | exact rfl | refine And.intro ?_ ?_)))) ?_ | refine el_at (i := j) rfl g1 ?_ | refine el_is htd ?_ | refine at_da hsd rfl ?_ | refine ify ?_ | refine ifn ?_ | refine i6 ?_ | refine ati ?_ | refine mst ?_ | refine rmd ?_ | refine ibo (fun _ => ?_) (fun _ => ?_)) <;> conv => whnf))
        exact ⟨j + 1, _, _, hjl, .refl _ _, ⟨rfl, rfl, rfl, rfl, rfl, trivial⟩, ⟨rfl, rfl, rfl, rfl, rfl, rfl, by rw [← hset]; rfl, trivial⟩, by omega⟩
      · have g0 : 0 < ((stI states i).map dTx).length := by omega
        (conv => whnf)
        (repeat' ((first | refine ord_ok (by (conv => whnf); (repeat' ((first | refine call_mqs (M := M) 911 rfl ⟨rfl, rfl, rfl, rfl, rfl⟩ rfl hsq (dTx_flats _) ?_ | refine call_mq (M := M) ⟨rfl, rfl, rfl, rfl, rfl⟩ rfl hrq rfl ?_ | refine el_at (i := 0) rfl g0 ?_ | refine el_is hs0d ?_ | refine at_da hs0d rfl ?_ | refine ify ?_ | refine ifn ?_ | refine i6 ?_ | refine ati ?_ | refine mst ?_ | refine rmd ?_ | refine ibo (fun _ => ?_) (fun _ => ?_)) <;> conv => whnf)); (all_goals (repeat' (first | exact trivial | exact rfl | refine And.intro ?_ ?_)))) ?_ | refine call_mqs (M := M) 911 rfl ⟨rfl, rfl, rfl, rfl, rfl⟩ rfl hsq (dTx_flats _) ?_ | refine call_mq (M := M) ⟨rfl, rfl, rfl, rfl, rfl⟩ rfl hrq rfl ?_ | refine el_at (i := 0) rfl g0 ?_ | refine el_is hs0d ?_ | refine at_da hs0d rfl ?_ | refine ify ?_ | refine ifn ?_ | refine i6 ?_ | refine ati ?_ | refine mst ?_ | refine rmd ?_ | refine ibo (fun _ => ?_) (fun _ => ?_)) <;> conv => whnf))
        exact congrArg Da.bool (decide_eq_true rfl)
end Go.Proofs.YtlchegpgicdldaaDoor
