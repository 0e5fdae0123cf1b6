/- BspPlays: the walk. -/
import Derived.Test.YtlchegpgicdldaaDoorBfn
namespace Go.Proofs.YtlchegpgicdldaaDoor
open Go.Sx Go.RowKit Go.Reg

set_option maxRecDepth 100000
theorem all_snoc {wk : List Bool} {w : Nat} {b : Bool} (h : wk[w]? = some b) : (wk.take (w + 1)).all id = ((wk.take w).all id && b) := by
  rw [List.take_add_one, h, Option.toList_some, List.all_append]; simp
theorem set_same {wk : List Bool} {v : Nat} {b : Bool} (h : wk[v]? = some b) : wk.set v b = wk := by
  apply List.ext_getElem?
  intro k
  rw [List.getElem?_set]
  by_cases e : v = k
  · subst e
    rw [if_pos rfl, if_pos (List.getElem?_eq_some_iff.1 h).1, h]
  · rw [if_neg e]
theorem dB_set (wk : List Bool) (v : Nat) : (wk.map dB).set v (.bool true) = (wk.set v true).map dB := by rw [List.map_set]; rfl
theorem rep_dB (n : Nat) : List.replicate n (Da.bool false) = (List.replicate n false).map dB := List.map_replicate.symm
def pl_l20p : List (Nat × Plan) := [(67, .leaf [0, 0, 0, 0, 0, 0, 0, 0, 0, 1, 0, 0, 0, 1, 0, 0, 0, 0, 0, 2, 0, 0, 0, 1, 0, 0] [0, 1, 2, 3, 4, 5, 6, 7, 8, 10, 11, 12, 9, 13, 14, 15, 16, 17, 18, 20, 21, 22, 23, 19, 24, 25] [0, 1, 0, 4, 15, 31, 63, 63, 255, 511, 63, 63, 3135, 7231, 16383, 32767, 65535, 131071, 131071, 524287, 131071, 131071, 3276799, 7471103, 16777215, 33554431])]
def G_l20p : List FuncId := [15]
theorem cok_l20p : codeOk Tryd.prog G_l20p pl_l20p (Tryd.f6.body.getD .skip) = true := by kernel_rfl
theorem run_l20p (vs : Array Value) (w : World) : (callFunc 6 vs).run C1.P w = .ok (.enter 6 vs) w := by kernel_rfl
set_option maxHeartbeats 8000000 in
theorem lplay_pure (states : List ByteArray) (to : List (List Int)) (l : List ActB) : Pure C1 6 [.list 1 (states.map dTx), .list 1 (to.map dTB), .list 2 (l.map dAB)] (fun y => y = .bool true) := by
  have k1 : (states.map dTx).length = states.length := List.length_map _
  have k2 : (l.map dAB).length = l.length := List.length_map _
  refine pure_of c1_ok (pl := pl_l20p) (G := G_l20p) Tryd.func6 rfl Tryd.ntmps6 run_l20p cok_l20p (by simp) ?_
  (conv => whnf)
  (repeat' ((first | refine ord_ok (by (conv => whnf); (repeat' ((first | refine call_eq rfl lalive20 ?_ | refine ify ?_ | refine ifn ?_ | refine i6 ?_ | refine ati ?_ | refine mst ?_ | refine rmd ?_ | refine ibo (fun _ => ?_) (fun _ => ?_)) <;> conv => whnf)); (all_goals (repeat' (first | exact trivial | exact rfl | refine And.intro ?_ ?_)))) ?_ | refine call_eq rfl lalive20 ?_ | refine ify ?_ | refine ifn ?_ | refine i6 ?_ | refine ati ?_ | refine mst ?_ | refine rmd ?_ | refine ibo (fun _ => ?_) (fun _ => ?_)) <;> conv => whnf))
  refine call_pure rfl (fine_pure states to) ?_
  rintro y ⟨b, rfl, hb⟩
  cases b with
  | false =>
    ((conv => whnf); repeat' ((first | refine odw ?_ | refine ify ?_ | refine ifn ?_ | refine i6 ?_ | refine ati ?_ | refine mst ?_ | refine rmd ?_ | refine ibo (fun _ => ?_) (fun _ => ?_)) <;> conv => whnf))
    exact rfl
  | true =>
  have hF := hb.1 rfl
  by_cases h100 : 100 < l.length
  · ((conv => whnf); repeat' ((first | refine odw ?_ | refine ify ?_ | refine ifn ?_ | refine i6 ?_ | refine ati ?_ | refine mst ?_ | refine rmd ?_ | refine ibo (fun _ => ?_) (fun _ => ?_)) <;> conv => whnf))
    exact rfl
  have n1 := hF.n1
  have n6 := hF.n6
  have hnew := new_ok 33 (jobX to) states (by omega) (by omega)
  have hf0 := fresh_run hF
  generalize M0 33 (jobX to) states = Mz at hnew hf0
  (conv => whnf)
  (repeat' ((first | refine ord_ok (by (conv => whnf); (repeat' ((first | refine call_req [] [] hnew rfl rfl rfl rfl rfl rfl rfl ?_ | refine mk_ok states.length (by omega) (by omega) (by omega) ?_ | refine ify ?_ | refine ifn ?_ | refine i6 ?_ | refine ati ?_ | refine mst ?_ | refine rmd ?_ | refine ibo (fun _ => ?_) (fun _ => ?_)) <;> conv => whnf)); (all_goals (repeat' (first | exact trivial | exact rfl | refine And.intro ?_ ?_)))) ?_ | refine call_req [] [] hnew rfl rfl rfl rfl rfl rfl rfl ?_ | refine mk_ok states.length (by omega) (by omega) (by omega) ?_ | refine ify ?_ | refine ifn ?_ | refine i6 ?_ | refine ati ?_ | refine mst ?_ | refine rmd ?_ | refine ibo (fun _ => ?_) (fun _ => ?_)) <;> conv => whnf))
  refine loop_trf (ι := Nat × Nat × List Bool × Mach) (fun x => x.1 ≤ l.length ∧ x.2.1 ≤ x.1 ∧ RunM to (Rst to states x.2.1).1 (Rst to states x.2.1).2 x.2.2.1 ((x.2.1 : Nat) : Int) (1000 * x.1) x.2.2.2) (fun x => [(14, .d (.int .i64 (x.1 : Nat))), (13, .d (.int .i64 (x.2.1 : Nat))), (12, .own 12), (11, .d (.list 1 ((Rst to states x.2.1).2.map dTs))), (10, .d (.list 1 ((Rst to states x.2.1).1.map dTx))), (8, .own 900), (7, .own 7), (2, .d (.list 2 (l.map dAB))), (0, .d (.list 1 (states.map dTx)))])
    (fun x => (7, .cells 31 [.d (.list 1 (to.map dTB))]) :: (12, .slice 4 1 (x.2.2.1.map dB)) :: sM x.2.2.2) (fun x => l.length - x.1) (0, 0, List.replicate states.length false, Mz) (fun _ => rfl) ⟨Nat.zero_le _, Nat.le_refl _, hf0.mono (by omega)⟩ ((Trf.laxS (i := 55) rfl (lax_nils states.length)).andThen ((Trf.lo (.frz 55 rfl (.refl _ _))).andThen (Trf.ren [(58, 12)] rfl rfl))) ⟨rfl, rfl, rfl, rfl, rfl, rfl, rfl, rfl, rfl, trivial⟩ ⟨rfl, by rw [← rep_dB]; rfl, rfl, rfl, rfl, rfl, rfl, rfl, trivial⟩ ?_
  rintro ⟨i, r, wk, M⟩ ⟨hi, hri, hM⟩
  simp only at hi hri hM
  by_cases hil : ¬ i < l.length
  · refine sxCode_sound c1_ok (G := G_l20p) (pl := pl_l20p) _ _ _ _ (by kernel_rfl) ?_
    ((conv => whnf); repeat' ((first | refine odw ?_ | refine ify ?_ | refine ifn ?_ | refine i6 ?_ | refine ati ?_ | refine mst ?_ | refine rmd ?_ | refine ibo (fun _ => ?_) (fun _ => ?_)) <;> conv => whnf))
    exact rfl
  replace hil := Decidable.not_not.1 hil
  have hx := List.getElem?_eq_getElem hil
  generalize l[i] = x at hx
  have hxd : (l.map dAB)[i]? = some (.agg [.int .i64 x.kind, .int .i64 x.n]) := by rw [List.getElem?_map, hx]; rfl
  have hRl := Rst_len to states r
  have hml : M.states.length = states.length := by rw [hM.len, hRl]
  have hwl : wk.length = states.length := by rw [hM.inv.wl, hRl]
  have hwd : (wk.map dB).length = wk.length := List.length_map _
  have hfly := hM.inv.net.fly
  have hff := mfly_ok M (by omega)
  apply call_cut (ι := Nat × List Bool × Mach) C1 11 [.own 900] (fun y => RunM to (Rst to states y.1).1 (Rst to states y.1).2 y.2.1 ((y.1 : Nat) : Int) (1000 * (i + 1)) y.2.2 ∧ y.1 ≤ i + 1) (fun y => [(14, .d (.int .i64 (i : Nat))), (13, .d (.int .i64 (y.1 : Nat))), (12, .own 12), (11, .d (.list 1 ((Rst to states y.1).2.map dTs))), (10, .d (.list 1 ((Rst to states y.1).1.map dTx))), (8, .own 900), (7, .own 7), (2, .d (.list 2 (l.map dAB))), (0, .d (.list 1 (states.map dTx)))]) (fun y => (7, .cells 31 [.d (.list 1 (to.map dTB))]) :: (12, .slice 4 1 (y.2.1.map dB)) :: sM y.2.2)
  · intro tail
    refine sxCode_sound c1_ok (G := G_l20p) (pl := pl_l20p) _ _ _ _ (by kernel_rfl) ?_
    apply code_cut (ι := Bool) C1 _ (fun inb => inb = true ↔ 0 ≤ x.n ∧ x.n < states.length) (fun inb => (18, .d (.int .i64 0)) :: (17, .d (.bool true)) :: (16, .d (.bool inb)) :: (15, .d (.int .i64 x.n)) :: [(14, .d (.int .i64 (i : Nat))), (13, .d (.int .i64 (r : Nat))), (12, .own 12), (11, .d (.list 1 ((Rst to states r).2.map dTs))), (10, .d (.list 1 ((Rst to states r).1.map dTx))), (8, .own 900), (7, .own 7), (2, .d (.list 2 (l.map dAB))), (0, .d (.list 1 (states.map dTx)))]) (fun _ => (7, .cells 31 [.d (.list 1 (to.map dTB))]) :: (12, .slice 4 1 (wk.map dB)) :: sM M)
    · intro mid
      by_cases h0 : 0 ≤ x.n
      · by_cases h1 : x.n < states.length
        · (conv => whnf)
          (repeat' ((first | refine ord_ok (by (conv => whnf); (repeat' ((first | refine at_da hxd rfl ?_ | refine ify ?_ | refine ifn ?_ | refine i6 ?_ | refine ati ?_ | refine mst ?_ | refine rmd ?_ | refine ibo (fun _ => ?_) (fun _ => ?_)) <;> conv => whnf)); (all_goals (repeat' (first | exact trivial | exact rfl | refine And.intro ?_ ?_)))) ?_ | refine at_da hxd rfl ?_ | refine ify ?_ | refine ifn ?_ | refine i6 ?_ | refine ati ?_ | refine mst ?_ | refine rmd ?_ | refine ibo (fun _ => ?_) (fun _ => ?_)) <;> conv => whnf))
          refine code_to (Trf.lo (.lax 16 rfl (.prop true (decide_eq_true (by omega))) (.refl _ _))) ?_ ?_ ?_ (mid true ⟨fun _ => ⟨h0, h1⟩, fun _ => rfl⟩)
          · exact ⟨rfl, rfl, rfl, rfl, rfl, rfl, rfl, rfl, rfl, rfl, rfl, rfl, rfl, trivial⟩
          · exact ⟨rfl, rfl, rfl, rfl, rfl, rfl, rfl, rfl, trivial⟩
          · exact rfl
        · (conv => whnf)
          (repeat' ((first | refine ord_ok (by (conv => whnf); (repeat' ((first | refine at_da hxd rfl ?_ | refine ify ?_ | refine ifn ?_ | refine i6 ?_ | refine ati ?_ | refine mst ?_ | refine rmd ?_ | refine ibo (fun _ => ?_) (fun _ => ?_)) <;> conv => whnf)); (all_goals (repeat' (first | exact trivial | exact rfl | refine And.intro ?_ ?_)))) ?_ | refine at_da hxd rfl ?_ | refine ify ?_ | refine ifn ?_ | refine i6 ?_ | refine ati ?_ | refine mst ?_ | refine rmd ?_ | refine ibo (fun _ => ?_) (fun _ => ?_)) <;> conv => whnf))
          refine code_to (Trf.lo (.lax 16 rfl (.prop false (decide_eq_false (by omega))) (.refl _ _))) ?_ ?_ ?_ (mid false ⟨fun e => (by cases e), fun h => absurd h.2 h1⟩)
          · exact ⟨rfl, rfl, rfl, rfl, rfl, rfl, rfl, rfl, rfl, rfl, rfl, rfl, rfl, trivial⟩
          · exact ⟨rfl, rfl, rfl, rfl, rfl, rfl, rfl, rfl, trivial⟩
          · exact rfl
      · (conv => whnf)
        (repeat' ((first | refine ord_ok (by (conv => whnf); (repeat' ((first | refine at_da hxd rfl ?_ | refine ify ?_ | refine ifn ?_ | refine i6 ?_ | refine ati ?_ | refine mst ?_ | refine rmd ?_ | refine ibo (fun _ => ?_) (fun _ => ?_)) <;> conv => whnf)); (all_goals (repeat' (first | exact trivial | exact rfl | refine And.intro ?_ ?_)))) ?_ | refine at_da hxd rfl ?_ | refine ify ?_ | refine ifn ?_ | refine i6 ?_ | refine ati ?_ | refine mst ?_ | refine rmd ?_ | refine ibo (fun _ => ?_) (fun _ => ?_)) <;> conv => whnf))
        refine code_to .refl ?_ ?_ ?_ (mid false ⟨fun e => (by cases e), fun h => absurd h.1 h0⟩)
        · exact ⟨rfl, rfl, rfl, rfl, rfl, rfl, rfl, rfl, rfl, rfl, rfl, rfl, rfl, trivial⟩
        · exact ⟨rfl, rfl, rfl, rfl, rfl, rfl, rfl, rfl, trivial⟩
        · exact rfl
    · intro inb hin
      refine loop_lo (ι := Nat) (fun w => w ≤ states.length) (fun w => (18, .d (.int .i64 (w : Nat))) :: (17, .d (.bool ((wk.take w).all id))) :: (16, .d (.bool inb)) :: (15, .d (.int .i64 x.n)) :: [(14, .d (.int .i64 (i : Nat))), (13, .d (.int .i64 (r : Nat))), (12, .own 12), (11, .d (.list 1 ((Rst to states r).2.map dTs))), (10, .d (.list 1 ((Rst to states r).1.map dTx))), (8, .own 900), (7, .own 7), (2, .d (.list 2 (l.map dAB))), (0, .d (.list 1 (states.map dTx)))]) (fun _ => (7, .cells 31 [.d (.list 1 (to.map dTB))]) :: (12, .slice 4 1 (wk.map dB)) :: sM M) (fun w => states.length - w) 0 (fun _ => rfl) (by omega) (.refl _ _) ⟨rfl, rfl, rfl, rfl, rfl, rfl, rfl, rfl, rfl, rfl, rfl, rfl, rfl, trivial⟩ ⟨rfl, rfl, rfl, rfl, rfl, rfl, rfl, rfl, trivial⟩ ?_
      intro w hw
      by_cases hwlt : w < states.length
      · have hb := List.getElem?_eq_getElem (show w < wk.length by omega)
        have hall := all_snoc hb
        generalize wk[w]'(by omega) = b at hb hall
        have hbd : (wk.map dB)[w]? = some (.bool b) := by rw [List.getElem?_map, hb]; rfl
        have g : w < (wk.map dB).length := by omega
        generalize (wk.take w).all id = a at hall
        refine sxCode_sound c1_ok (G := G_l20p) (pl := pl_l20p) _ _ _ _ (by kernel_rfl) ?_
        cases a with
        | true =>
          (conv => whnf)
          (repeat' ((first | refine ord_ok (by (conv => whnf); (repeat' ((first | refine el_at (i := w) rfl g ?_ | refine el_is hbd ?_ | refine ify ?_ | refine ifn ?_ | refine i6 ?_ | refine ati ?_ | refine mst ?_ | refine rmd ?_ | refine ibo (fun _ => ?_) (fun _ => ?_)) <;> conv => whnf)); (all_goals (repeat' (first | exact trivial | exact rfl | refine And.intro ?_ ?_)))) ?_ | refine el_at (i := w) rfl g ?_ | refine el_is hbd ?_ | refine ify ?_ | refine ifn ?_ | refine i6 ?_ | refine ati ?_ | refine mst ?_ | refine rmd ?_ | refine ibo (fun _ => ?_) (fun _ => ?_)) <;> conv => whnf))
          exact ⟨w + 1, _, _, hwlt, .refl _ _, ⟨rfl, by rw [hall]; rfl, rfl, rfl, rfl, rfl, rfl, rfl, rfl, rfl, rfl, rfl, rfl, trivial⟩, ⟨rfl, rfl, rfl, rfl, rfl, rfl, rfl, rfl, trivial⟩, by omega⟩
        | false =>
          ((conv => whnf); repeat' ((first | refine odw ?_ | refine ify ?_ | refine ifn ?_ | refine i6 ?_ | refine ati ?_ | refine mst ?_ | refine rmd ?_ | refine ibo (fun _ => ?_) (fun _ => ?_)) <;> conv => whnf))
          exact ⟨w + 1, _, _, hwlt, .refl _ _, ⟨rfl, by rw [hall]; rfl, rfl, rfl, rfl, rfl, rfl, rfl, rfl, rfl, rfl, rfl, rfl, trivial⟩, ⟨rfl, rfl, rfl, rfl, rfl, rfl, rfl, rfl, trivial⟩, by omega⟩
      have hA : (wk.take w).all id = true → ∀ b ∈ wk, b = true := fun h b hb => by
        rw [List.take_of_length_le (by omega)] at h
        simpa using List.all_eq_true.1 h b hb
      have hA2 : (wk.take w).all id = false → false ∈ wk := fun h => by
        rw [List.take_of_length_le (by omega)] at h
        obtain ⟨b, hb, hb2⟩ := List.all_eq_false.1 h
        simp at hb2
        rw [← hb2]; exact hb
      generalize (wk.take w).all id = A at hA hA2
      refine sxCode_sound c1_ok (G := G_l20p) (pl := pl_l20p) _ _ _ _ (by kernel_rfl) ?_
      have stay : RunM to (Rst to states r).1 (Rst to states r).2 wk ((r : Nat) : Int) (1000 * (i + 1)) M := hM.mono (by omega)
      by_cases q0 : x.kind = 0
      · cases inb with
        | false =>
          have hout : x.n < 0 ∨ (M.states.length : Int) ≤ x.n := by
            by_cases hz : 0 ≤ x.n ∧ x.n < states.length
            · have := hin.2 hz; cases this
            · omega
          have hno := mwork_no M x.n hout
          (conv => whnf)
          (repeat' ((first | refine ord_ok (by (conv => whnf); (repeat' ((first | refine at_da hxd rfl ?_ | refine call_req [] [900, 901, 902, 903, 904, 905] hno rfl rfl rfl rfl rfl rfl rfl ?_ | refine call_eq rfl (code_pure 3 0 workerS) ?_ | refine ify ?_ | refine ifn ?_ | refine i6 ?_ | refine ati ?_ | refine mst ?_ | refine rmd ?_ | refine ibo (fun _ => ?_) (fun _ => ?_)) <;> conv => whnf)); (all_goals (repeat' (first | exact trivial | exact rfl | refine And.intro ?_ ?_)))) ?_ | refine at_da hxd rfl ?_ | refine call_req [] [900, 901, 902, 903, 904, 905] hno rfl rfl rfl rfl rfl rfl rfl ?_ | refine call_eq rfl (code_pure 3 0 workerS) ?_ | refine ify ?_ | refine ifn ?_ | refine i6 ?_ | refine ati ?_ | refine mst ?_ | refine rmd ?_ | refine ibo (fun _ => ?_) (fun _ => ?_)) <;> conv => whnf))
          refine call_to ?_ ?_ ?_ ?_ (tail (r, wk, M) ⟨stay, by omega⟩)
          · exact ⟨rfl, rfl, rfl, rfl, rfl, rfl, rfl, rfl, rfl, trivial⟩
          · exact ⟨rfl, rfl, rfl, rfl, rfl, rfl, rfl, rfl, trivial⟩
          · exact rfl
          · exact rfl
        | true =>
          obtain ⟨hn0, hn1⟩ := hin.1 rfl
          obtain ⟨v, hv⟩ := Int.eq_ofNat_of_zero_le hn0
          rw [hv] at hxd ⊢
          have hvl : v < wk.length := by omega
          have hb := List.getElem?_eq_getElem hvl
          generalize wk[v] = b at hb
          have hbd : (wk.map dB)[v]? = some (.bool b) := by rw [List.getElem?_map, hb]; rfl
          have g : v < (wk.map dB).length := by omega
          cases b with
          | true =>
            have hth := mwork_there M v (by omega) (by rw [hM.inv.wkd]; exact hb)
            (conv => whnf)
            (repeat' ((first | refine ord_ok (by (conv => whnf); (repeat' ((first | refine at_da hxd rfl ?_ | refine call_req [] [900, 901, 902, 903, 904, 905] hth rfl rfl rfl rfl rfl rfl rfl ?_ | refine call_eq rfl (code_pure 4 0 workerS) ?_ | refine el_at (i := v) rfl g ?_ | refine el_is hbd ?_ | refine ify ?_ | refine ifn ?_ | refine i6 ?_ | refine ati ?_ | refine mst ?_ | refine rmd ?_ | refine ibo (fun _ => ?_) (fun _ => ?_)) <;> conv => whnf)); (all_goals (repeat' (first | exact trivial | exact rfl | refine And.intro ?_ ?_)))) ?_ | refine at_da hxd rfl ?_ | refine call_req [] [900, 901, 902, 903, 904, 905] hth rfl rfl rfl rfl rfl rfl rfl ?_ | refine call_eq rfl (code_pure 4 0 workerS) ?_ | refine el_at (i := v) rfl g ?_ | refine el_is hbd ?_ | refine ify ?_ | refine ifn ?_ | refine i6 ?_ | refine ati ?_ | refine mst ?_ | refine rmd ?_ | refine ibo (fun _ => ?_) (fun _ => ?_)) <;> conv => whnf))
            refine call_to ?_ ?_ ?_ ?_ (tail (r, wk, M) ⟨stay, by omega⟩)
            · exact ⟨rfl, rfl, rfl, rfl, rfl, rfl, rfl, rfl, rfl, trivial⟩
            · exact ⟨rfl, slice_is ((dB_set wk v).trans (congrArg (List.map dB) (set_same hb))), rfl, rfl, rfl, rfl, rfl, rfl, trivial⟩
            · exact rfl
            · exact rfl
          | false =>
            have hwo := work_inv hM (by omega) hb
            have hdid := (hM.did hb).mono (show 1000 * i + 1000 ≤ 1000 * (i + 1) by omega)
            (conv => whnf)
            (repeat' ((first | refine ord_ok (by (conv => whnf); (repeat' ((first | refine at_da hxd rfl ?_ | refine call_req [] [900, 901, 902, 903, 904, 905] hwo rfl rfl rfl rfl rfl rfl rfl ?_ | refine call_eq rfl code_nil_pure ?_ | refine el_at (i := v) rfl g ?_ | refine el_is hbd ?_ | refine ify ?_ | refine ifn ?_ | refine i6 ?_ | refine ati ?_ | refine mst ?_ | refine rmd ?_ | refine ibo (fun _ => ?_) (fun _ => ?_)) <;> conv => whnf)); (all_goals (repeat' (first | exact trivial | exact rfl | refine And.intro ?_ ?_)))) ?_ | refine at_da hxd rfl ?_ | refine call_req [] [900, 901, 902, 903, 904, 905] hwo rfl rfl rfl rfl rfl rfl rfl ?_ | refine call_eq rfl code_nil_pure ?_ | refine el_at (i := v) rfl g ?_ | refine el_is hbd ?_ | refine ify ?_ | refine ifn ?_ | refine i6 ?_ | refine ati ?_ | refine mst ?_ | refine rmd ?_ | refine ibo (fun _ => ?_) (fun _ => ?_)) <;> conv => whnf))
            refine call_to ?_ ?_ ?_ ?_ (tail (r, wk.set v true, _) ⟨hdid, by omega⟩)
            · exact ⟨rfl, rfl, rfl, rfl, rfl, rfl, rfl, rfl, rfl, trivial⟩
            · exact ⟨rfl, slice_is (dB_set wk v), rfl, rfl, rfl, rfl, rfl, rfl, trivial⟩
            · exact rfl
            · exact rfl
      by_cases q1 : x.kind = 1
      · by_cases hneg : x.n < 0
        · (conv => whnf)
          (repeat' ((first | refine ord_ok (by (conv => whnf); (repeat' ((first | refine at_da hxd rfl ?_ | refine call_req [] [900, 901, 902, 903, 904, 905] hff rfl rfl rfl rfl rfl rfl rfl ?_ | refine ify ?_ | refine ifn ?_ | refine i6 ?_ | refine ati ?_ | refine mst ?_ | refine rmd ?_ | refine ibo (fun _ => ?_) (fun _ => ?_)) <;> conv => whnf)); (all_goals (repeat' (first | exact trivial | exact rfl | refine And.intro ?_ ?_)))) ?_ | refine at_da hxd rfl ?_ | refine call_req [] [900, 901, 902, 903, 904, 905] hff rfl rfl rfl rfl rfl rfl rfl ?_ | refine ify ?_ | refine ifn ?_ | refine i6 ?_ | refine ati ?_ | refine mst ?_ | refine rmd ?_ | refine ibo (fun _ => ?_) (fun _ => ?_)) <;> conv => whnf))
          refine call_recx [] [900, 901, 902, 903, 904, 905] (y := fun s : ByteArray => .d (dF 3 0 s)) (τ := fun _ => sM M) (P := fun _ => True) (mdel_no M x.n (.inl hneg)) (fun d σ ⟨⟨s, h⟩, h2⟩ => ⟨s, h, h2, trivial⟩) rfl rfl rfl rfl rfl rfl (by intro _; exact rfl) ?_
          intro s _
          (conv => whnf)
          (repeat' ((first | refine ord_ok (by (conv => whnf); (repeat' ((first | refine call_eq rfl (code_pure 3 0 s) ?_ | refine ifq ?_ | refine ify ?_ | refine ifn ?_ | refine i6 ?_ | refine ati ?_ | refine mst ?_ | refine rmd ?_ | refine ibo (fun _ => ?_) (fun _ => ?_)) <;> conv => whnf)); (all_goals (repeat' (first | exact trivial | exact rfl | refine And.intro ?_ ?_)))) ?_ | refine call_eq rfl (code_pure 3 0 s) ?_ | refine ifq ?_ | refine ify ?_ | refine ifn ?_ | refine i6 ?_ | refine ati ?_ | refine mst ?_ | refine rmd ?_ | refine ibo (fun _ => ?_) (fun _ => ?_)) <;> conv => whnf))
          refine call_to ?_ ?_ ?_ ?_ (tail (r, wk, M) ⟨stay, by omega⟩)
          · exact ⟨rfl, rfl, rfl, rfl, rfl, rfl, rfl, rfl, rfl, trivial⟩
          · exact ⟨rfl, rfl, rfl, rfl, rfl, rfl, rfl, rfl, trivial⟩
          · exact rfl
          · exact rfl
        by_cases hbig : (M.net.flying.length : Int) ≤ x.n
        · (conv => whnf)
          (repeat' ((first | refine ord_ok (by (conv => whnf); (repeat' ((first | refine at_da hxd rfl ?_ | refine call_req [] [900, 901, 902, 903, 904, 905] hff rfl rfl rfl rfl rfl rfl rfl ?_ | refine ify ?_ | refine ifn ?_ | refine i6 ?_ | refine ati ?_ | refine mst ?_ | refine rmd ?_ | refine ibo (fun _ => ?_) (fun _ => ?_)) <;> conv => whnf)); (all_goals (repeat' (first | exact trivial | exact rfl | refine And.intro ?_ ?_)))) ?_ | refine at_da hxd rfl ?_ | refine call_req [] [900, 901, 902, 903, 904, 905] hff rfl rfl rfl rfl rfl rfl rfl ?_ | refine ify ?_ | refine ifn ?_ | refine i6 ?_ | refine ati ?_ | refine mst ?_ | refine rmd ?_ | refine ibo (fun _ => ?_) (fun _ => ?_)) <;> conv => whnf))
          refine call_recx [] [900, 901, 902, 903, 904, 905] (y := fun s : ByteArray => .d (dF 3 0 s)) (τ := fun _ => sM M) (P := fun _ => True) (mdel_no M x.n (.inr hbig)) (fun d σ ⟨⟨s, h⟩, h2⟩ => ⟨s, h, h2, trivial⟩) rfl rfl rfl rfl rfl rfl (by intro _; exact rfl) ?_
          intro s _
          (conv => whnf)
          (repeat' ((first | refine ord_ok (by (conv => whnf); (repeat' ((first | refine call_eq rfl (code_pure 3 0 s) ?_ | refine ifq ?_ | refine ify ?_ | refine ifn ?_ | refine i6 ?_ | refine ati ?_ | refine mst ?_ | refine rmd ?_ | refine ibo (fun _ => ?_) (fun _ => ?_)) <;> conv => whnf)); (all_goals (repeat' (first | exact trivial | exact rfl | refine And.intro ?_ ?_)))) ?_ | refine call_eq rfl (code_pure 3 0 s) ?_ | refine ifq ?_ | refine ify ?_ | refine ifn ?_ | refine i6 ?_ | refine ati ?_ | refine mst ?_ | refine rmd ?_ | refine ibo (fun _ => ?_) (fun _ => ?_)) <;> conv => whnf))
          refine call_to ?_ ?_ ?_ ?_ (tail (r, wk, M) ⟨stay, by omega⟩)
          · exact ⟨rfl, rfl, rfl, rfl, rfl, rfl, rfl, rfl, rfl, trivial⟩
          · exact ⟨rfl, rfl, rfl, rfl, rfl, rfl, rfl, rfl, trivial⟩
          · exact rfl
          · exact rfl
        obtain ⟨v, hv⟩ := Int.eq_ofNat_of_zero_le (show 0 ≤ x.n by omega)
        rw [hv] at hxd ⊢
        have hl := List.getElem?_eq_getElem (show v < M.net.flying.length by omega)
        generalize M.net.flying[v]'(by omega) = L at hl
        have hok := mdel_ok M v L hl (by omega)
        have hst := (hM.deliver hl).mono (show 1000 * i + 1 ≤ 1000 * (i + 1) by omega)
        (conv => whnf)
        (repeat' ((first | refine ord_ok (by (conv => whnf); (repeat' ((first | refine at_da hxd rfl ?_ | refine call_req [] [900, 901, 902, 903, 904, 905] hff rfl rfl rfl rfl rfl rfl rfl ?_ | refine call_req [] [900, 901, 902, 903, 904, 905] hok rfl rfl rfl rfl rfl rfl rfl ?_ | refine call_eq rfl code_nil_pure ?_ | refine ifq ?_ | refine ify ?_ | refine ifn ?_ | refine i6 ?_ | refine ati ?_ | refine mst ?_ | refine rmd ?_ | refine ibo (fun _ => ?_) (fun _ => ?_)) <;> conv => whnf)); (all_goals (repeat' (first | exact trivial | exact rfl | refine And.intro ?_ ?_)))) ?_ | refine at_da hxd rfl ?_ | refine call_req [] [900, 901, 902, 903, 904, 905] hff rfl rfl rfl rfl rfl rfl rfl ?_ | refine call_req [] [900, 901, 902, 903, 904, 905] hok rfl rfl rfl rfl rfl rfl rfl ?_ | refine call_eq rfl code_nil_pure ?_ | refine ifq ?_ | refine ify ?_ | refine ifn ?_ | refine i6 ?_ | refine ati ?_ | refine mst ?_ | refine rmd ?_ | refine ibo (fun _ => ?_) (fun _ => ?_)) <;> conv => whnf))
        refine call_to ?_ ?_ ?_ ?_ (tail (r, wk, _) ⟨hst, by omega⟩)
        · exact ⟨rfl, rfl, rfl, rfl, rfl, rfl, rfl, rfl, rfl, trivial⟩
        · exact ⟨rfl, rfl, rfl, rfl, rfl, rfl, rfl, rfl, trivial⟩
        · exact rfl
        · exact rfl
      by_cases q2 : x.kind = 2
      · by_cases hneg : x.n < 0
        · (conv => whnf)
          (repeat' ((first | refine ord_ok (by (conv => whnf); (repeat' ((first | refine at_da hxd rfl ?_ | refine call_req [] [900, 901, 902, 903, 904, 905] hff rfl rfl rfl rfl rfl rfl rfl ?_ | refine ify ?_ | refine ifn ?_ | refine i6 ?_ | refine ati ?_ | refine mst ?_ | refine rmd ?_ | refine ibo (fun _ => ?_) (fun _ => ?_)) <;> conv => whnf)); (all_goals (repeat' (first | exact trivial | exact rfl | refine And.intro ?_ ?_)))) ?_ | refine at_da hxd rfl ?_ | refine call_req [] [900, 901, 902, 903, 904, 905] hff rfl rfl rfl rfl rfl rfl rfl ?_ | refine ify ?_ | refine ifn ?_ | refine i6 ?_ | refine ati ?_ | refine mst ?_ | refine rmd ?_ | refine ibo (fun _ => ?_) (fun _ => ?_)) <;> conv => whnf))
          refine call_recx [] [900, 901, 902, 903, 904, 905] (y := fun s : ByteArray => .d (dF 3 0 s)) (τ := fun _ => sM M) (P := fun _ => True) (mdbl_no M x.n (.inl hneg)) (fun d σ ⟨⟨s, h⟩, h2⟩ => ⟨s, h, h2, trivial⟩) rfl rfl rfl rfl rfl rfl (by intro _; exact rfl) ?_
          intro s _
          (conv => whnf)
          (repeat' ((first | refine ord_ok (by (conv => whnf); (repeat' ((first | refine call_eq rfl (code_pure 3 0 s) ?_ | refine ifq ?_ | refine ify ?_ | refine ifn ?_ | refine i6 ?_ | refine ati ?_ | refine mst ?_ | refine rmd ?_ | refine ibo (fun _ => ?_) (fun _ => ?_)) <;> conv => whnf)); (all_goals (repeat' (first | exact trivial | exact rfl | refine And.intro ?_ ?_)))) ?_ | refine call_eq rfl (code_pure 3 0 s) ?_ | refine ifq ?_ | refine ify ?_ | refine ifn ?_ | refine i6 ?_ | refine ati ?_ | refine mst ?_ | refine rmd ?_ | refine ibo (fun _ => ?_) (fun _ => ?_)) <;> conv => whnf))
          refine call_to ?_ ?_ ?_ ?_ (tail (r, wk, M) ⟨stay, by omega⟩)
          · exact ⟨rfl, rfl, rfl, rfl, rfl, rfl, rfl, rfl, rfl, trivial⟩
          · exact ⟨rfl, rfl, rfl, rfl, rfl, rfl, rfl, rfl, trivial⟩
          · exact rfl
          · exact rfl
        by_cases hbig : (M.net.flying.length : Int) ≤ x.n
        · (conv => whnf)
          (repeat' ((first | refine ord_ok (by (conv => whnf); (repeat' ((first | refine at_da hxd rfl ?_ | refine call_req [] [900, 901, 902, 903, 904, 905] hff rfl rfl rfl rfl rfl rfl rfl ?_ | refine ify ?_ | refine ifn ?_ | refine i6 ?_ | refine ati ?_ | refine mst ?_ | refine rmd ?_ | refine ibo (fun _ => ?_) (fun _ => ?_)) <;> conv => whnf)); (all_goals (repeat' (first | exact trivial | exact rfl | refine And.intro ?_ ?_)))) ?_ | refine at_da hxd rfl ?_ | refine call_req [] [900, 901, 902, 903, 904, 905] hff rfl rfl rfl rfl rfl rfl rfl ?_ | refine ify ?_ | refine ifn ?_ | refine i6 ?_ | refine ati ?_ | refine mst ?_ | refine rmd ?_ | refine ibo (fun _ => ?_) (fun _ => ?_)) <;> conv => whnf))
          refine call_recx [] [900, 901, 902, 903, 904, 905] (y := fun s : ByteArray => .d (dF 3 0 s)) (τ := fun _ => sM M) (P := fun _ => True) (mdbl_no M x.n (.inr hbig)) (fun d σ ⟨⟨s, h⟩, h2⟩ => ⟨s, h, h2, trivial⟩) rfl rfl rfl rfl rfl rfl (by intro _; exact rfl) ?_
          intro s _
          (conv => whnf)
          (repeat' ((first | refine ord_ok (by (conv => whnf); (repeat' ((first | refine call_eq rfl (code_pure 3 0 s) ?_ | refine ifq ?_ | refine ify ?_ | refine ifn ?_ | refine i6 ?_ | refine ati ?_ | refine mst ?_ | refine rmd ?_ | refine ibo (fun _ => ?_) (fun _ => ?_)) <;> conv => whnf)); (all_goals (repeat' (first | exact trivial | exact rfl | refine And.intro ?_ ?_)))) ?_ | refine call_eq rfl (code_pure 3 0 s) ?_ | refine ifq ?_ | refine ify ?_ | refine ifn ?_ | refine i6 ?_ | refine ati ?_ | refine mst ?_ | refine rmd ?_ | refine ibo (fun _ => ?_) (fun _ => ?_)) <;> conv => whnf))
          refine call_to ?_ ?_ ?_ ?_ (tail (r, wk, M) ⟨stay, by omega⟩)
          · exact ⟨rfl, rfl, rfl, rfl, rfl, rfl, rfl, rfl, rfl, trivial⟩
          · exact ⟨rfl, rfl, rfl, rfl, rfl, rfl, rfl, rfl, trivial⟩
          · exact rfl
          · exact rfl
        obtain ⟨v, hv⟩ := Int.eq_ofNat_of_zero_le (show 0 ≤ x.n by omega)
        rw [hv] at hxd ⊢
        have hl := List.getElem?_eq_getElem (show v < M.net.flying.length by omega)
        generalize M.net.flying[v]'(by omega) = L at hl
        have hok := mdbl_ok M v L hl (by omega)
        have hst := (hM.double hl).mono (show 1000 * i + 1 ≤ 1000 * (i + 1) by omega)
        (conv => whnf)
        (repeat' ((first | refine ord_ok (by (conv => whnf); (repeat' ((first | refine at_da hxd rfl ?_ | refine call_req [] [900, 901, 902, 903, 904, 905] hff rfl rfl rfl rfl rfl rfl rfl ?_ | refine call_req [] [900, 901, 902, 903, 904, 905] hok rfl rfl rfl rfl rfl rfl rfl ?_ | refine call_eq rfl code_nil_pure ?_ | refine ifq ?_ | refine ify ?_ | refine ifn ?_ | refine i6 ?_ | refine ati ?_ | refine mst ?_ | refine rmd ?_ | refine ibo (fun _ => ?_) (fun _ => ?_)) <;> conv => whnf)); (all_goals (repeat' (first | exact trivial | exact rfl | refine And.intro ?_ ?_)))) ?_ | refine at_da hxd rfl ?_ | refine call_req [] [900, 901, 902, 903, 904, 905] hff rfl rfl rfl rfl rfl rfl rfl ?_ | refine call_req [] [900, 901, 902, 903, 904, 905] hok rfl rfl rfl rfl rfl rfl rfl ?_ | refine call_eq rfl code_nil_pure ?_ | refine ifq ?_ | refine ify ?_ | refine ifn ?_ | refine i6 ?_ | refine ati ?_ | refine mst ?_ | refine rmd ?_ | refine ibo (fun _ => ?_) (fun _ => ?_)) <;> conv => whnf))
        refine call_to ?_ ?_ ?_ ?_ (tail (r, wk, _) ⟨hst, by omega⟩)
        · exact ⟨rfl, rfl, rfl, rfl, rfl, rfl, rfl, rfl, rfl, trivial⟩
        · exact ⟨rfl, rfl, rfl, rfl, rfl, rfl, rfl, rfl, trivial⟩
        · exact rfl
        · exact rfl
      by_cases q3 : x.kind = 3
      · cases inb with
        | false =>
          have hout : x.n < 0 ∨ (M.states.length : Int) ≤ x.n := by
            by_cases hz : 0 ≤ x.n ∧ x.n < states.length
            · have := hin.2 hz; cases this
            · omega
          have hno := mcra_no M x.n hout
          (conv => whnf)
          (repeat' ((first | refine ord_ok (by (conv => whnf); (repeat' ((first | refine at_da hxd rfl ?_ | refine call_req [] [900, 901, 902, 903, 904, 905] hno rfl rfl rfl rfl rfl rfl rfl ?_ | refine call_eq rfl (code_pure 3 0 workerS) ?_ | refine ifq ?_ | refine ify ?_ | refine ifn ?_ | refine i6 ?_ | refine ati ?_ | refine mst ?_ | refine rmd ?_ | refine ibo (fun _ => ?_) (fun _ => ?_)) <;> conv => whnf)); (all_goals (repeat' (first | exact trivial | exact rfl | refine And.intro ?_ ?_)))) ?_ | refine at_da hxd rfl ?_ | refine call_req [] [900, 901, 902, 903, 904, 905] hno rfl rfl rfl rfl rfl rfl rfl ?_ | refine call_eq rfl (code_pure 3 0 workerS) ?_ | refine ifq ?_ | refine ify ?_ | refine ifn ?_ | refine i6 ?_ | refine ati ?_ | refine mst ?_ | refine rmd ?_ | refine ibo (fun _ => ?_) (fun _ => ?_)) <;> conv => whnf))
          refine call_to ?_ ?_ ?_ ?_ (tail (r, wk, M) ⟨stay, by omega⟩)
          · exact ⟨rfl, rfl, rfl, rfl, rfl, rfl, rfl, rfl, rfl, trivial⟩
          · exact ⟨rfl, rfl, rfl, rfl, rfl, rfl, rfl, rfl, trivial⟩
          · exact rfl
          · exact rfl
        | true =>
          obtain ⟨hn0, hn1⟩ := hin.1 rfl
          have hcr := mcra_ok M x.n hn0 (by omega) (by omega)
          have hbk := hM.back.mono (show 0 ≤ 1000 * (i + 1) by omega)
          rw [hRl] at hbk
          have hfb := mfly_ok M.back (by simp [Mach.back])
          rw [show M.back.net.flying.length = 0 from rfl] at hfb
          (conv => whnf)
          (repeat' ((first | refine ord_ok (by (conv => whnf); (repeat' ((first | refine at_da hxd rfl ?_ | refine call_req [] [900, 901, 902, 903, 904, 905] hcr rfl rfl rfl rfl rfl rfl rfl ?_ | refine call_eq rfl code_nil_pure ?_ | refine ifq ?_ | refine mk_ok states.length (by omega) (by omega) (by omega) ?_ | refine call_req [] [900, 901, 902, 903, 904, 905] hfb rfl rfl rfl rfl rfl rfl rfl ?_ | refine ify ?_ | refine ifn ?_ | refine i6 ?_ | refine ati ?_ | refine mst ?_ | refine rmd ?_ | refine ibo (fun _ => ?_) (fun _ => ?_)) <;> conv => whnf)); (all_goals (repeat' (first | exact trivial | exact rfl | refine And.intro ?_ ?_)))) ?_ | refine at_da hxd rfl ?_ | refine call_req [] [900, 901, 902, 903, 904, 905] hcr rfl rfl rfl rfl rfl rfl rfl ?_ | refine call_eq rfl code_nil_pure ?_ | refine ifq ?_ | refine mk_ok states.length (by omega) (by omega) (by omega) ?_ | refine call_req [] [900, 901, 902, 903, 904, 905] hfb rfl rfl rfl rfl rfl rfl rfl ?_ | refine ify ?_ | refine ifn ?_ | refine i6 ?_ | refine ati ?_ | refine mst ?_ | refine rmd ?_ | refine ibo (fun _ => ?_) (fun _ => ?_)) <;> conv => whnf))
          refine call_ren [(197, 12), (12, 197)] rfl rfl rfl ?_
          refine call_to ?_ ?_ ?_ ?_ (tail (r, List.replicate states.length false, M.back) ⟨hbk, by omega⟩)
          · exact ⟨rfl, rfl, rfl, rfl, rfl, rfl, rfl, rfl, rfl, trivial⟩
          · exact ⟨rfl, by rw [← rep_dB]; rfl, rfl, rfl, rfl, rfl, rfl, rfl, trivial⟩
          · exact rfl
          · exact rfl
      have hrp := round_pure to (Rst to states r).1 (Rst to states r).2 hM.wb.n1 (by have := hM.wb.n2; omega) hM.wb.inl hM.wb.sts hM.wb.box hM.wb.tol (fun x hx => ⟨by have := (hM.wb.tos x hx).1; omega, (hM.wb.tos x hx).2⟩)
      by_cases q4 : x.kind = 4
      · cases A with
        | false =>
          have hpw := mpass_wk M (by rw [hM.inv.wkd]; exact hA2 rfl) (by rw [hM.inv.wkd]; omega)
          (conv => whnf)
          (repeat' ((first | refine ord_ok (by (conv => whnf); (repeat' ((first | refine at_da hxd rfl ?_ | refine call_req [] [900, 901, 902, 903, 904, 905] hpw rfl rfl rfl rfl rfl rfl rfl ?_ | refine call_eq rfl (code_pure 5 0 workerS) ?_ | refine ifq ?_ | refine ify ?_ | refine ifn ?_ | refine i6 ?_ | refine ati ?_ | refine mst ?_ | refine rmd ?_ | refine ibo (fun _ => ?_) (fun _ => ?_)) <;> conv => whnf)); (all_goals (repeat' (first | exact trivial | exact rfl | refine And.intro ?_ ?_)))) ?_ | refine at_da hxd rfl ?_ | refine call_req [] [900, 901, 902, 903, 904, 905] hpw rfl rfl rfl rfl rfl rfl rfl ?_ | refine call_eq rfl (code_pure 5 0 workerS) ?_ | refine ifq ?_ | refine ify ?_ | refine ifn ?_ | refine i6 ?_ | refine ati ?_ | refine mst ?_ | refine rmd ?_ | refine ibo (fun _ => ?_) (fun _ => ?_)) <;> conv => whnf))
          refine call_to ?_ ?_ ?_ ?_ (tail (r, wk, M) ⟨stay, by omega⟩)
          · exact ⟨rfl, rfl, rfl, rfl, rfl, rfl, rfl, rfl, rfl, trivial⟩
          · exact ⟨rfl, rfl, rfl, rfl, rfl, rfl, rfl, rfl, trivial⟩
          · exact rfl
          · exact rfl
        | true =>
          by_cases hm0 : Go.Proofs.YtlchegpgicdldaaDoor.M M.net = 0
          · have hpa := pass_inv hM (by omega) (by omega) (hA rfl) hm0
            have hps := (hM.pass (hA rfl)).mono (show 0 ≤ 1000 * (i + 1) by omega)
            rw [hRl] at hps
            (conv => whnf)
            (repeat' ((first | refine ord_ok (by (conv => whnf); (repeat' ((first | refine at_da hxd rfl ?_ | refine call_req [] [900, 901, 902, 903, 904, 905] hpa rfl rfl rfl rfl rfl rfl rfl ?_ | refine call_eq rfl code_nil_pure ?_ | refine ifq ?_ | refine call_eq rfl hrp ?_ | refine mk_ok states.length (by omega) (by omega) (by omega) ?_ | refine ify ?_ | refine ifn ?_ | refine i6 ?_ | refine ati ?_ | refine mst ?_ | refine rmd ?_ | refine ibo (fun _ => ?_) (fun _ => ?_)) <;> conv => whnf)); (all_goals (repeat' (first | exact trivial | exact rfl | refine And.intro ?_ ?_)))) ?_ | refine at_da hxd rfl ?_ | refine call_req [] [900, 901, 902, 903, 904, 905] hpa rfl rfl rfl rfl rfl rfl rfl ?_ | refine call_eq rfl code_nil_pure ?_ | refine ifq ?_ | refine call_eq rfl hrp ?_ | refine mk_ok states.length (by omega) (by omega) (by omega) ?_ | refine ify ?_ | refine ifn ?_ | refine i6 ?_ | refine ati ?_ | refine mst ?_ | refine rmd ?_ | refine ibo (fun _ => ?_) (fun _ => ?_)) <;> conv => whnf))
            refine call_ren [(247, 12), (12, 247)] rfl rfl rfl ?_
            refine call_to ?_ ?_ ?_ ?_ (tail (r + 1, List.replicate states.length false, _) ⟨hps, by simp only; omega⟩)
            · exact ⟨rfl, rfl, rfl, rfl, rfl, rfl, rfl, rfl, rfl, trivial⟩
            · exact ⟨rfl, by rw [← rep_dB]; rfl, rfl, rfl, rfl, rfl, rfl, rfl, trivial⟩
            · exact rfl
            · exact rfl
          · have hpf := mpass_fly M (by rw [hM.inv.wkd]; intro hm; have := hA rfl _ hm; cases this) (by rw [hM.inv.wkd]; omega) hM.inv.net (by omega) hm0
            have hne : M.net.flying.length ≠ 0 := fun e => hm0 (hM.inv.quiet (List.eq_nil_of_length_eq_zero e))
            (conv => whnf)
            (repeat' ((first | refine ord_ok (by (conv => whnf); (repeat' ((first | refine at_da hxd rfl ?_ | refine call_req [] [900, 901, 902, 903, 904, 905] hpf rfl rfl rfl rfl rfl rfl rfl ?_ | refine call_eq rfl (code_pure 13 (Go.Proofs.YtlchegpgicdldaaDoor.M M.net) lettersS) ?_ | refine call_req [] [900, 901, 902, 903, 904, 905] hff rfl rfl rfl rfl rfl rfl rfl ?_ | refine ifq ?_ | refine ify ?_ | refine ifn ?_ | refine i6 ?_ | refine ati ?_ | refine mst ?_ | refine rmd ?_ | refine ibo (fun _ => ?_) (fun _ => ?_)) <;> conv => whnf)); (all_goals (repeat' (first | exact trivial | exact rfl | refine And.intro ?_ ?_)))) ?_ | refine at_da hxd rfl ?_ | refine call_req [] [900, 901, 902, 903, 904, 905] hpf rfl rfl rfl rfl rfl rfl rfl ?_ | refine call_eq rfl (code_pure 13 (Go.Proofs.YtlchegpgicdldaaDoor.M M.net) lettersS) ?_ | refine call_req [] [900, 901, 902, 903, 904, 905] hff rfl rfl rfl rfl rfl rfl rfl ?_ | refine ifq ?_ | refine ify ?_ | refine ifn ?_ | refine i6 ?_ | refine ati ?_ | refine mst ?_ | refine rmd ?_ | refine ibo (fun _ => ?_) (fun _ => ?_)) <;> conv => whnf))
            refine call_to ?_ ?_ ?_ ?_ (tail (r, wk, M) ⟨stay, by omega⟩)
            · exact ⟨rfl, rfl, rfl, rfl, rfl, rfl, rfl, rfl, rfl, trivial⟩
            · exact ⟨rfl, rfl, rfl, rfl, rfl, rfl, rfl, rfl, trivial⟩
            · exact rfl
            · exact rfl
      by_cases q5 : x.kind = 5
      · (conv => whnf)
        (repeat' ((first | refine ord_ok (by (conv => whnf); (repeat' ((first | refine at_da hxd rfl ?_ | refine ify ?_ | refine ifn ?_ | refine i6 ?_ | refine ati ?_ | refine mst ?_ | refine rmd ?_ | refine ibo (fun _ => ?_) (fun _ => ?_)) <;> conv => whnf)); (all_goals (repeat' (first | exact trivial | exact rfl | refine And.intro ?_ ?_)))) ?_ | refine at_da hxd rfl ?_ | refine ify ?_ | refine ifn ?_ | refine i6 ?_ | refine ati ?_ | refine mst ?_ | refine rmd ?_ | refine ibo (fun _ => ?_) (fun _ => ?_)) <;> conv => whnf))
        refine call_recx [] [900, 901, 902, 903, 904, 905] (y := fun _ : Mach => .d .nili) (τ := sM) (P := fun z => RunM to (roundS (Rst to states r).1 (Rst to states r).2) (roundB to (Rst to states r).1) (List.replicate (Rst to states r).1.length false) ((r : Nat) + 1) 0 z) (finish_ok hM (by omega) (by omega)) (fun d σ ⟨h1, z, h2, h3⟩ => ⟨z, h1, h2, h3⟩) rfl rfl rfl rfl rfl rfl (by intro _; exact rfl) ?_
        intro M3 hM3
        have hps := hM3.mono (show 0 ≤ 1000 * (i + 1) by omega)
        rw [hRl] at hps
        (conv => whnf)
        (repeat' ((first | refine ord_ok (by (conv => whnf); (repeat' ((first | refine call_eq rfl hrp ?_ | refine mk_ok states.length (by omega) (by omega) (by omega) ?_ | refine ify ?_ | refine ifn ?_ | refine i6 ?_ | refine ati ?_ | refine mst ?_ | refine rmd ?_ | refine ibo (fun _ => ?_) (fun _ => ?_)) <;> conv => whnf)); (all_goals (repeat' (first | exact trivial | exact rfl | refine And.intro ?_ ?_)))) ?_ | refine call_eq rfl hrp ?_ | refine mk_ok states.length (by omega) (by omega) (by omega) ?_ | refine ify ?_ | refine ifn ?_ | refine i6 ?_ | refine ati ?_ | refine mst ?_ | refine rmd ?_ | refine ibo (fun _ => ?_) (fun _ => ?_)) <;> conv => whnf))
        refine call_ren [(247, 12), (12, 247)] rfl rfl rfl ?_
        refine call_to ?_ ?_ ?_ ?_ (tail (r + 1, List.replicate states.length false, M3) ⟨hps, by simp only; omega⟩)
        · exact ⟨rfl, rfl, rfl, rfl, rfl, rfl, rfl, rfl, rfl, trivial⟩
        · exact ⟨rfl, by rw [← rep_dB]; rfl, rfl, rfl, rfl, rfl, rfl, rfl, trivial⟩
        · exact rfl
        · exact rfl
      (conv => whnf)
      (repeat' ((first | refine ord_ok (by (conv => whnf); (repeat' ((first | refine at_da hxd rfl ?_ | refine ify ?_ | refine ifn ?_ | refine i6 ?_ | refine ati ?_ | refine mst ?_ | refine rmd ?_ | refine ibo (fun _ => ?_) (fun _ => ?_)) <;> conv => whnf)); (all_goals (repeat' (first | exact trivial | exact rfl | refine And.intro ?_ ?_)))) ?_ | refine at_da hxd rfl ?_ | refine ify ?_ | refine ifn ?_ | refine i6 ?_ | refine ati ?_ | refine mst ?_ | refine rmd ?_ | refine ibo (fun _ => ?_) (fun _ => ?_)) <;> conv => whnf))
      refine call_to ?_ ?_ ?_ ?_ (tail (r, wk, M) ⟨stay, by omega⟩)
      · exact ⟨rfl, rfl, rfl, rfl, rfl, rfl, rfl, rfl, rfl, trivial⟩
      · exact ⟨rfl, rfl, rfl, rfl, rfl, rfl, rfl, rfl, trivial⟩
      · exact rfl
      · exact rfl
  · rintro ⟨r1, wk1, M1⟩ ⟨h1, hr1⟩
    simp only at h1 hr1
    have hl1 := Rst_len to states r1
    have hml1 : M1.states.length = states.length := by rw [h1.len, hl1]
    have hs1 := mstates_ok M1 (by omega)
    rw [h1.inv.sts] at hs1
    have hrd1 := mround_ok M1
    rw [h1.inv.rd] at hrd1
    have hwl1 : wk1.length = states.length := by rw [h1.inv.wl, hl1]
    have hwd1 : (wk1.map dB).length = wk1.length := List.length_map _
    have hWl : ((Rst to states r1).1.map dTx).length = states.length := by rw [List.length_map, hl1]
    refine call_req [] [900, 901, 902, 903, 904, 905] hs1 rfl rfl rfl rfl rfl rfl rfl ?_
    (conv => whnf)
    (repeat' ((first | refine ord_ok (by (conv => whnf); (repeat' ((first | refine ifq ?_ | refine ify ?_ | refine ifn ?_ | refine i6 ?_ | refine ati ?_ | refine mst ?_ | refine rmd ?_ | refine ibo (fun _ => ?_) (fun _ => ?_)) <;> conv => whnf)); (all_goals (repeat' (first | exact trivial | exact rfl | refine And.intro ?_ ?_)))) ?_ | refine ifq ?_ | refine ify ?_ | refine ifn ?_ | refine i6 ?_ | refine ati ?_ | refine mst ?_ | refine rmd ?_ | refine ibo (fun _ => ?_) (fun _ => ?_)) <;> conv => whnf))
    refine loop_lo (ι := Nat) (fun w => w ≤ states.length) (fun w => (28, .d (.int .i64 (w : Nat))) :: (27, .d (.list 1 ((Rst to states r1).1.map dTx))) :: [(14, .d (.int .i64 (i : Nat))), (13, .d (.int .i64 (r1 : Nat))), (12, .own 12), (11, .d (.list 1 ((Rst to states r1).2.map dTs))), (10, .d (.list 1 ((Rst to states r1).1.map dTx))), (8, .own 900), (7, .own 7), (2, .d (.list 2 (l.map dAB))), (0, .d (.list 1 (states.map dTx)))]) (fun _ => (7, .cells 31 [.d (.list 1 (to.map dTB))]) :: (12, .slice 4 1 (wk1.map dB)) :: sM M1) (fun w => states.length - w) 0 (fun _ => rfl) (by omega) (.frz 907 rfl (.refl _ _)) ⟨rfl, rfl, rfl, rfl, rfl, rfl, rfl, rfl, rfl, rfl, rfl, trivial⟩ ⟨rfl, rfl, rfl, rfl, rfl, rfl, rfl, rfl, trivial⟩ ?_
    intro w hw
    refine sxCode_sound c1_ok (G := G_l20p) (pl := pl_l20p) _ _ _ _ (by kernel_rfl) ?_
    by_cases hwlt : w < states.length
    · have hb := List.getElem?_eq_getElem (show w < wk1.length by omega)
      generalize wk1[w]'(by omega) = b at hb
      have hbd : (wk1.map dB)[w]? = some (.bool b) := by rw [List.getElem?_map, hb]; rfl
      have g : w < (wk1.map dB).length := by omega
      have hy := List.getElem?_eq_getElem (show w < (Rst to states r1).1.length by omega)
      generalize (Rst to states r1).1[w]'(by omega) = s at hy
      have hyd : ((Rst to states r1).1.map dTx)[w]? = some (.str s) := by rw [List.getElem?_map, hy]; rfl
      have hwq := mworked_q M1 w b (by omega) (by rw [h1.inv.wkd]; exact hb)
      cases b <;>
      ((conv => whnf)
       (repeat' ((first | refine ord_ok (by (conv => whnf); (repeat' ((first | refine at_da hyd rfl ?_ | refine el_at (i := w) rfl g ?_ | refine el_is hbd ?_ | refine call_mq (M := M1) ⟨rfl, rfl, rfl, rfl, rfl⟩ rfl hwq rfl ?_ | refine if_iff (by decide) ?_ | refine ify ?_ | refine ifn ?_ | refine i6 ?_ | refine ati ?_ | refine mst ?_ | refine rmd ?_ | refine ibo (fun _ => ?_) (fun _ => ?_)) <;> conv => whnf)); (all_goals (repeat' (first | exact trivial | exact rfl | refine And.intro ?_ ?_)))) ?_ | refine at_da hyd rfl ?_ | refine el_at (i := w) rfl g ?_ | refine el_is hbd ?_ | refine call_mq (M := M1) ⟨rfl, rfl, rfl, rfl, rfl⟩ rfl hwq rfl ?_ | refine if_iff (by decide) ?_ | refine ify ?_ | refine ifn ?_ | refine i6 ?_ | refine ati ?_ | refine mst ?_ | refine rmd ?_ | refine ibo (fun _ => ?_) (fun _ => ?_)) <;> conv => whnf))
       exact ⟨w + 1, _, _, hwlt, .refl _ _, ⟨rfl, rfl, rfl, rfl, rfl, rfl, rfl, rfl, rfl, rfl, rfl, trivial⟩, ⟨rfl, rfl, rfl, rfl, rfl, rfl, rfl, rfl, trivial⟩, by omega⟩)
    · (conv => whnf)
      (repeat' ((first | refine ord_ok (by (conv => whnf); (repeat' ((first | refine call_req [] [900, 901, 902, 903, 904, 905] hrd1 rfl rfl rfl rfl rfl rfl rfl ?_ | refine ify ?_ | refine ifn ?_ | refine i6 ?_ | refine ati ?_ | refine mst ?_ | refine rmd ?_ | refine ibo (fun _ => ?_) (fun _ => ?_)) <;> conv => whnf)); (all_goals (repeat' (first | exact trivial | exact rfl | refine And.intro ?_ ?_)))) ?_ | refine call_req [] [900, 901, 902, 903, 904, 905] hrd1 rfl rfl rfl rfl rfl rfl rfl ?_ | refine ify ?_ | refine ifn ?_ | refine i6 ?_ | refine ati ?_ | refine mst ?_ | refine rmd ?_ | refine ibo (fun _ => ?_) (fun _ => ?_)) <;> conv => whnf))
      exact ⟨(i + 1, r1, wk1, M1), _, _, ⟨hil, hr1, h1⟩, .refl, ⟨rfl, rfl, rfl, rfl, rfl, rfl, rfl, rfl, rfl, trivial⟩, ⟨rfl, rfl, rfl, rfl, rfl, rfl, rfl, rfl, trivial⟩, by simp only; omega⟩
end Go.Proofs.YtlchegpgicdldaaDoor
