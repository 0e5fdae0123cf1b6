/- law25: ScriptCounts, ScriptOrder: the walks. -/
import Derived.Test.YtdbafjjmdgdjgaaDoorScg
namespace Go.Proofs.YtdbafjjmdgdjgaaDoor
open Go.Sx Go.RowKit Go.Reg Go.Gr
variable {X : LayG}

set_option maxRecDepth 100000
theorem right_no {m : List (Nat × Nat)} (hm : ∀ p ∈ m, actOk p) {p : Int × Int} (hp : ¬ okA p) (r : List (Int × Int)) (hl : (m.map toI ++ p :: r).length ≤ 1000000) : Pure (C2 X) 13 [dAs (m.map toI ++ p :: r)] (fun y => y = dF 14 m.length actS) := by
  have := right_pure (X := X) _ hl
  rwa [show rightY (m.map toI ++ p :: r) = dF 14 m.length actS by unfold rightY; rw [fbad_no hm hp]] at this
def pl_slc : List (Nat × Plan) := []
def G_slc : List FuncId := [10, 11, 14, 13, 12, 16]
theorem cok_slc : codeOk Tryd.prog G_slc pl_slc (Tryd.f6.body.getD .skip) = true := by kernel_rfl
theorem run_slc (vs : Array Value) (w : World) : (callFunc 6 vs).run (C2 X).P w = .ok (.enter 6 vs) w := by kernel_rfl
set_option maxHeartbeats 8000000 in
theorem scounts_pure (l1 l2 : List (Int × Int)) (hmx1 : l1.length ≤ 8796093022207) (hmx2 : l2.length ≤ 8796093022207) : Pure (C2 X) 6 [dAs l1, dAs l2] (fun y => y = .bool true) := by
  have hd1 : (l1.map dA).length = l1.length := List.length_map _
  have hd2 : (l2.map dA).length = l2.length := List.length_map _
  have hal := salive_pure (X := X)
  have o1 := aof_pure (X := X) l1 hmx1
  have o2 := aof_pure (X := X) l2 hmx2
  refine pure_of (c2_ok X) (pl := pl_slc) (G := G_slc) Tryd.func6 rfl Tryd.ntmps6 run_slc cok_slc (by simp) ?_
  by_cases h1 : 60 < l1.length
  · (conv => whnf)
    (repeat' ((first | refine ord_ok (by (conv => whnf); (repeat' ((first | refine call_eq rfl hal ?_ | refine call_eq rfl o1 ?_ | refine call_eq rfl o2 ?_ | refine ify ?_ | refine ifn ?_ | refine i6 ?_ | refine ati ?_ | refine mst ?_ | refine rmd ?_ | refine ibo (fun _ => ?_) (fun _ => ?_)) <;> conv => whnf)); (all_goals (repeat' (first | exact trivial | exact rfl | refine And.intro ?_ ?_)))) ?_ | refine call_eq rfl hal ?_ | refine call_eq rfl o1 ?_ | refine call_eq rfl o2 ?_ | refine ify ?_ | refine ifn ?_ | refine i6 ?_ | refine ati ?_ | refine mst ?_ | refine rmd ?_ | refine ibo (fun _ => ?_) (fun _ => ?_)) <;> conv => whnf))
    exact rfl
  by_cases h2 : 60 < l2.length
  · (conv => whnf)
    (repeat' ((first | refine ord_ok (by (conv => whnf); (repeat' ((first | refine call_eq rfl hal ?_ | refine call_eq rfl o1 ?_ | refine call_eq rfl o2 ?_ | refine ify ?_ | refine ifn ?_ | refine i6 ?_ | refine ati ?_ | refine mst ?_ | refine rmd ?_ | refine ibo (fun _ => ?_) (fun _ => ?_)) <;> conv => whnf)); (all_goals (repeat' (first | exact trivial | exact rfl | refine And.intro ?_ ?_)))) ?_ | refine call_eq rfl hal ?_ | refine call_eq rfl o1 ?_ | refine call_eq rfl o2 ?_ | refine ify ?_ | refine ifn ?_ | refine i6 ?_ | refine ati ?_ | refine mst ?_ | refine rmd ?_ | refine ibo (fun _ => ?_) (fun _ => ?_)) <;> conv => whnf))
    exact rfl
  rcases (first_case l1).symm with ⟨m, p, r, hm, hp, rfl⟩ | ⟨m1, hm1, rfl⟩
  · have hr := right_no (X := X) hm hp r (by omega)
    (conv => whnf)
    (repeat' ((first | refine ord_ok (by (conv => whnf); (repeat' ((first | refine call_eq rfl hal ?_ | refine call_eq rfl o1 ?_ | refine call_eq rfl o2 ?_ | refine call_eq rfl hr ?_ | refine ify ?_ | refine ifn ?_ | refine i6 ?_ | refine ati ?_ | refine mst ?_ | refine rmd ?_ | refine ibo (fun _ => ?_) (fun _ => ?_)) <;> conv => whnf)); (all_goals (repeat' (first | exact trivial | exact rfl | refine And.intro ?_ ?_)))) ?_ | refine call_eq rfl hal ?_ | refine call_eq rfl o1 ?_ | refine call_eq rfl o2 ?_ | refine call_eq rfl hr ?_ | refine ify ?_ | refine ifn ?_ | refine i6 ?_ | refine ati ?_ | refine mst ?_ | refine rmd ?_ | refine ibo (fun _ => ?_) (fun _ => ?_)) <;> conv => whnf))
    exact rfl
  rw [← dPs_eq] at o1 ⊢
  rw [List.length_map] at h1
  have hdm1 : (m1.map dP).length = m1.length := List.length_map _
  have hr1 := right_ok (X := X) hm1 (by omega)
  rcases (first_case l2).symm with ⟨m, p, r, hm, hp, rfl⟩ | ⟨m2, hm2, rfl⟩
  · have hr := right_no (X := X) hm hp r (by omega)
    (conv => whnf)
    (repeat' ((first | refine ord_ok (by (conv => whnf); (repeat' ((first | refine call_eq rfl hal ?_ | refine call_eq rfl o1 ?_ | refine call_eq rfl o2 ?_ | refine call_eq rfl hr1 ?_ | refine call_eq rfl hr ?_ | refine ify ?_ | refine ifn ?_ | refine i6 ?_ | refine ati ?_ | refine mst ?_ | refine rmd ?_ | refine ibo (fun _ => ?_) (fun _ => ?_)) <;> conv => whnf)); (all_goals (repeat' (first | exact trivial | exact rfl | refine And.intro ?_ ?_)))) ?_ | refine call_eq rfl hal ?_ | refine call_eq rfl o1 ?_ | refine call_eq rfl o2 ?_ | refine call_eq rfl hr1 ?_ | refine call_eq rfl hr ?_ | refine ify ?_ | refine ifn ?_ | refine i6 ?_ | refine ati ?_ | refine mst ?_ | refine rmd ?_ | refine ibo (fun _ => ?_) (fun _ => ?_)) <;> conv => whnf))
    exact rfl
  rw [← dPs_eq] at o2 ⊢
  rw [List.length_map] at h2
  have hdm2 : (m2.map dP).length = m2.length := List.length_map _
  have hr2 := right_ok (X := X) hm2 (by omega)
  have hmm : ∀ p ∈ m1 ++ m2, actOk p := fun p hp => (List.mem_append.1 hp).elim (hm1 p) (hm2 p)
  have t1 := text_pure (X := X) m1 hm1 (by omega)
  have t2 := text_pure (X := X) m2 hm2 (by omega)
  have hl3 : (m1 ++ m2).length = m1.length + m2.length := List.length_append
  have t3 := text_pure (X := X) (m1 ++ m2) hmm (by omega)
  have b1 := textB_len m1 hm1
  have b2 := textB_len m2 hm2
  have z1 := bs_size (textB m1)
  have z2 := bs_size (textB m2)
  have hps := parse_pure (X := X) (textB m1 ++ textB m2) (by rw [List.length_append]; omega) (by rw [← textB_app]; exact pars_all _ hmm)
  rw [← bs_cat, show parseY (m1 ++ m2) true = .tuple [dPs (m1 ++ m2), .nili] from rfl] at hps
  rw [textB_app, ← bs_cat] at t3
  (conv => whnf)
  (repeat' ((first | refine ord_ok (by (conv => whnf); (repeat' ((first | refine call_eq rfl hal ?_ | refine call_eq rfl o1 ?_ | refine call_eq rfl o2 ?_ | refine call_eq rfl hr1 ?_ | refine call_eq rfl hr2 ?_ | refine call_eq rfl t1 ?_ | refine call_eq rfl t2 ?_ | refine cat_ok (a := bs (textB m1)) (b := bs (textB m2)) (by omega) ?_ | refine call_eq rfl hps ?_ | refine ify ?_ | refine ifn ?_ | refine i6 ?_ | refine ati ?_ | refine mst ?_ | refine rmd ?_ | refine ibo (fun _ => ?_) (fun _ => ?_)) <;> conv => whnf)); (all_goals (repeat' (first | exact trivial | exact rfl | refine And.intro ?_ ?_)))) ?_ | refine call_eq rfl hal ?_ | refine call_eq rfl o1 ?_ | refine call_eq rfl o2 ?_ | refine call_eq rfl hr1 ?_ | refine call_eq rfl hr2 ?_ | refine call_eq rfl t1 ?_ | refine call_eq rfl t2 ?_ | refine cat_ok (a := bs (textB m1)) (b := bs (textB m2)) (by omega) ?_ | refine call_eq rfl hps ?_ | refine ify ?_ | refine ifn ?_ | refine i6 ?_ | refine ati ?_ | refine mst ?_ | refine rmd ?_ | refine ibo (fun _ => ?_) (fun _ => ?_)) <;> conv => whnf))
  refine loop_lo (ι := Nat) (fun k => k ≤ 8) (fun k => [(12, .d (.int .i64 ((k : Int) - 1))), (11, .d (.int .i64 (sumK k ((m1 ++ m2).map toI)))), (10, .d .nili), (9, .d (dPs (m1 ++ m2))), (8, .d (.str (bs (textB m2)))), (7, .d (.str (bs (textB m1)))), (6, .d (dPs m2)), (5, .d (dPs m1)), (1, .d (dPs m2)), (0, .d (dPs m1))]) (fun _ => []) (fun k => 8 - k) 0 (fun _ => rfl) (Nat.zero_le _) (.refl _ _) ⟨rfl, rfl, rfl, rfl, rfl, rfl, rfl, rfl, rfl, rfl, trivial⟩ trivial ?_
  intro k hk
  refine sxCode_sound (c2_ok X) (G := G_slc) (pl := pl_slc) _ _ _ _ (by kernel_rfl) ?_
  by_cases hk8 : k < 8
  · have c3 := count_pure (X := X) ((m1 ++ m2).map toI) ((k : Int) - 1) (by rw [List.length_map]; omega)
    have c1 := count_pure (X := X) (m1.map toI) ((k : Int) - 1) (by rw [List.length_map]; omega)
    have c2 := count_pure (X := X) (m2.map toI) ((k : Int) - 1) (by rw [List.length_map]; omega)
    rw [← dPs_eq] at c1 c2 c3
    have e3 : cntK ((k : Int) - 1) ((m1 ++ m2).map toI) = cntK ((k : Int) - 1) (m1.map toI) + cntK ((k : Int) - 1) (m2.map toI) := by rw [List.map_append, cntK_app]
    have s1 : sumK (k + 1) ((m1 ++ m2).map toI) = sumK k ((m1 ++ m2).map toI) + cntK ((k : Int) - 1) ((m1 ++ m2).map toI) := rfl
    have l1 := cntK_le ((k : Int) - 1) (m1.map toI)
    have l2 := cntK_le ((k : Int) - 1) (m2.map toI)
    have l3 := sumK_le k ((m1 ++ m2).map toI)
    have l4 : k * ((m1 ++ m2).map toI).length ≤ 8 * 120 := Nat.mul_le_mul (by omega) (by rw [List.length_map]; omega)
    rw [List.length_map] at l1 l2
    have n0 : (k = 0 ∨ k = 7) → cntK ((k : Int) - 1) ((m1 ++ m2).map toI) = 0 := fun h => cntK_no hmm (by omega)
    by_cases hk0 : k = 0
    · have n1 := n0 (.inl hk0)
      (conv => whnf)
      (repeat' ((first | refine ord_ok (by (conv => whnf); (repeat' ((first | refine call_eq rfl c3 ?_ | refine call_eq rfl c1 ?_ | refine call_eq rfl c2 ?_ | refine ify ?_ | refine ifn ?_ | refine i6 ?_ | refine ati ?_ | refine mst ?_ | refine rmd ?_ | refine ibo (fun _ => ?_) (fun _ => ?_)) <;> conv => whnf)); (all_goals (repeat' (first | exact trivial | exact rfl | refine And.intro ?_ ?_)))) ?_ | refine call_eq rfl c3 ?_ | refine call_eq rfl c1 ?_ | refine call_eq rfl c2 ?_ | refine ify ?_ | refine ifn ?_ | refine i6 ?_ | refine ati ?_ | refine mst ?_ | refine rmd ?_ | refine ibo (fun _ => ?_) (fun _ => ?_)) <;> conv => whnf))
      refine ⟨k + 1, _, _, by omega, .refl _ _, ⟨int_is (by omega), int_is (by omega), rfl, rfl, rfl, rfl, rfl, rfl, rfl, rfl, trivial⟩, trivial, by omega⟩
    by_cases hk7 : k = 7
    · have n1 := n0 (.inr hk7)
      (conv => whnf)
      (repeat' ((first | refine ord_ok (by (conv => whnf); (repeat' ((first | refine call_eq rfl c3 ?_ | refine call_eq rfl c1 ?_ | refine call_eq rfl c2 ?_ | refine ify ?_ | refine ifn ?_ | refine i6 ?_ | refine ati ?_ | refine mst ?_ | refine rmd ?_ | refine ibo (fun _ => ?_) (fun _ => ?_)) <;> conv => whnf)); (all_goals (repeat' (first | exact trivial | exact rfl | refine And.intro ?_ ?_)))) ?_ | refine call_eq rfl c3 ?_ | refine call_eq rfl c1 ?_ | refine call_eq rfl c2 ?_ | refine ify ?_ | refine ifn ?_ | refine i6 ?_ | refine ati ?_ | refine mst ?_ | refine rmd ?_ | refine ibo (fun _ => ?_) (fun _ => ?_)) <;> conv => whnf))
      refine ⟨k + 1, _, _, by omega, .refl _ _, ⟨int_is (by omega), int_is (by omega), rfl, rfl, rfl, rfl, rfl, rfl, rfl, rfl, trivial⟩, trivial, by omega⟩
    · (conv => whnf)
      (repeat' ((first | refine ord_ok (by (conv => whnf); (repeat' ((first | refine call_eq rfl c3 ?_ | refine call_eq rfl c1 ?_ | refine call_eq rfl c2 ?_ | refine ify ?_ | refine ifn ?_ | refine i6 ?_ | refine ati ?_ | refine mst ?_ | refine rmd ?_ | refine ibo (fun _ => ?_) (fun _ => ?_)) <;> conv => whnf)); (all_goals (repeat' (first | exact trivial | exact rfl | refine And.intro ?_ ?_)))) ?_ | refine call_eq rfl c3 ?_ | refine call_eq rfl c1 ?_ | refine call_eq rfl c2 ?_ | refine ify ?_ | refine ifn ?_ | refine i6 ?_ | refine ati ?_ | refine mst ?_ | refine rmd ?_ | refine ibo (fun _ => ?_) (fun _ => ?_)) <;> conv => whnf))
      refine ⟨k + 1, _, _, by omega, .refl _ _, ⟨int_is (by omega), int_is (by omega), rfl, rfl, rfl, rfl, rfl, rfl, rfl, rfl, trivial⟩, trivial, by omega⟩
  · have hke : k = 8 := by omega
    subst hke
    have hs8 := sumK_all hmm
    rw [hs8, hl3]
    by_cases h0 : (textB m1).length = 0
    · (conv => whnf)
      (repeat' ((first | refine ord_ok (by (conv => whnf); (repeat' ((first | refine call_eq rfl t3 ?_ | refine cat_ok (a := bs (textB m1)) (b := bs (textB m2)) (by omega) ?_ | refine ify ?_ | refine ifn ?_ | refine i6 ?_ | refine ati ?_ | refine mst ?_ | refine rmd ?_ | refine ibo (fun _ => ?_) (fun _ => ?_)) <;> conv => whnf)); (all_goals (repeat' (first | exact trivial | exact rfl | refine And.intro ?_ ?_)))) ?_ | refine call_eq rfl t3 ?_ | refine cat_ok (a := bs (textB m1)) (b := bs (textB m2)) (by omega) ?_ | refine ify ?_ | refine ifn ?_ | refine i6 ?_ | refine ati ?_ | refine mst ?_ | refine rmd ?_ | refine ibo (fun _ => ?_) (fun _ => ?_)) <;> conv => whnf))
      exact rfl
    · have hne : m1 ≠ [] := fun e => h0 (by rw [e]; rfl)
      obtain ⟨m', hm', hpc⟩ := pars_cut hm1 hne
      have hpp := parse_pure (X := X) ((textB m1).take ((textB m1).length - 1)) (by rw [List.length_take]; omega) hpc
      rw [show parseY m' false = .tuple [.nils, dF 14 m'.length lineS] from rfl] at hpp
      have hcut : (bs (textB m1)).extract 0 ((textB m1).length - 1) = bs ((textB m1).take ((textB m1).length - 1)) := by rw [bs_cut, List.drop_zero]
      have hc := Pure.up (X := X) (code_pure 14 m'.length lineS)
      have ha := at_pure (X := X) 14 m'.length lineS
      (conv => whnf)
      (repeat' ((first | refine ord_ok (by (conv => whnf); (repeat' ((first | refine call_eq rfl t3 ?_ | refine cat_ok (a := bs (textB m1)) (b := bs (textB m2)) (by omega) ?_ | refine ify ?_ | refine ifn ?_ | refine i6 ?_ | refine ati ?_ | refine mst ?_ | refine rmd ?_ | refine ibo (fun _ => ?_) (fun _ => ?_)) <;> conv => whnf)); (all_goals (repeat' (first | exact trivial | exact rfl | refine And.intro ?_ ?_)))) ?_ | refine call_eq rfl t3 ?_ | refine cat_ok (a := bs (textB m1)) (b := bs (textB m2)) (by omega) ?_ | refine ify ?_ | refine ifn ?_ | refine i6 ?_ | refine ati ?_ | refine mst ?_ | refine rmd ?_ | refine ibo (fun _ => ?_) (fun _ => ?_)) <;> conv => whnf))
      refine op_strSl 0 ((textB m1).length - 1) (c2_ok X) rfl rfl rfl rfl rfl ⟨_, rfl, by omega⟩ (by omega) (by omega) rfl rfl ?_
      rw [hcut]
      (conv => whnf)
      (repeat' ((first | refine ord_ok (by (conv => whnf); (repeat' ((first | refine call_eq rfl hpp ?_ | refine call_eq rfl hc ?_ | refine call_eq rfl ha ?_ | refine ify ?_ | refine ifn ?_ | refine i6 ?_ | refine ati ?_ | refine mst ?_ | refine rmd ?_ | refine ibo (fun _ => ?_) (fun _ => ?_)) <;> conv => whnf)); (all_goals (repeat' (first | exact trivial | exact rfl | refine And.intro ?_ ?_)))) ?_ | refine call_eq rfl hpp ?_ | refine call_eq rfl hc ?_ | refine call_eq rfl ha ?_ | refine ify ?_ | refine ifn ?_ | refine i6 ?_ | refine ati ?_ | refine mst ?_ | refine rmd ?_ | refine ibo (fun _ => ?_) (fun _ => ?_)) <;> conv => whnf))
      exact congrArg Da.bool (decide_eq_true (by omega))
def badsD : List Da := [.str ⟨#[10]⟩, .str ⟨#[119, 111, 114, 107, 10]⟩, .str ⟨#[112, 97, 115, 115, 32, 48, 10]⟩, .str ⟨#[100, 101, 108, 105, 118, 101, 114, 32, 48, 48, 10]⟩, .str ⟨#[99, 114, 97, 115, 104, 32, 49, 50, 51, 52, 53, 54, 55, 10]⟩, .str ⟨#[32, 112, 97, 115, 115, 10]⟩]
theorem bads_at {i : Nat} (h : i < 6) : badsD[i]? = some (.str (bs (badB i ++ [10]))) := by
  obtain rfl | rfl | rfl | rfl | rfl | rfl : i = 0 ∨ i = 1 ∨ i = 2 ∨ i = 3 ∨ i = 4 ∨ i = 5 := by omega
  all_goals rfl
theorem badB_len (i : Nat) : (badB i).length ≤ 13 := by
  rcases i with _ | _ | _ | _ | _ | i <;> (simp only [badB]; decide)
def pl_slo : List (Nat × Plan) := [(8, .leaf [0, 0, 0, 0, 0, 1, 0, 0, 0, 0, 0, 0, 0, 1, 0, 0, 0, 2, 0, 0, 0, 0, 0] [0, 1, 2, 3, 4, 7, 9, 10, 11, 12, 15, 5, 6, 8, 13, 14, 16, 17, 18, 19, 20, 21, 22] [0, 0, 0, 4, 14, 30, 63, 0, 255, 0, 0, 1024, 3584, 7680, 16383, 0, 65535, 131071, 262143, 524287, 524287, 1048575, 4194303])]
def G_slo : List FuncId := [10, 11, 13, 8]
theorem cok_slo : codeOk Tryd.prog G_slo pl_slo (Tryd.f4.body.getD .skip) = true := by kernel_rfl
theorem run_slo (vs : Array Value) (w : World) : (callFunc 4 vs).run (C2 X).P w = .ok (.enter 4 vs) w := by kernel_rfl
set_option maxHeartbeats 8000000 in
theorem sorder_pure (l : List (Int × Int)) (a b : Int) (rest : List UInt8) (hmx : l.length ≤ 8796093022207) (ha : 0 ≤ a ∧ a ≤ 255) (hb : 0 ≤ b ∧ b ≤ 255) : Pure (C2 X) 4 [dAs l, .int .u8 a, .int .u8 b, .str (bs rest)] (fun y => y = .bool true) := by
  have hd1 : (l.map dA).length = l.length := List.length_map _
  have hal := salive_pure (X := X)
  have o1 := aof_pure (X := X) l hmx
  have hzr := bs_size rest
  obtain ⟨i, hi⟩ := Int.eq_ofNat_of_zero_le (show 0 ≤ a.tmod 6 by rw [tmod_nn ha.1]; omega)
  obtain ⟨j, hj⟩ := Int.eq_ofNat_of_zero_le (show 0 ≤ b.tmod 6 by rw [tmod_nn hb.1]; omega)
  have hi6 : i < 6 := by rw [tmod_nn ha.1] at hi; omega
  have hj6 : j < 6 := by rw [tmod_nn hb.1] at hj; omega
  refine pure_of (c2_ok X) (pl := pl_slo) (G := G_slo) Tryd.func4 rfl Tryd.ntmps4 run_slo cok_slo (by simp) ?_
  by_cases h1 : 60 < l.length
  · (conv => whnf)
    (repeat' ((first | refine ord_ok (by (conv => whnf); (repeat' ((first | refine call_eq rfl hal ?_ | refine call_eq rfl o1 ?_ | refine ify ?_ | refine ifn ?_ | refine i6 ?_ | refine ati ?_ | refine mst ?_ | refine rmd ?_ | refine ibo (fun _ => ?_) (fun _ => ?_)) <;> conv => whnf)); (all_goals (repeat' (first | exact trivial | exact rfl | refine And.intro ?_ ?_)))) ?_ | refine call_eq rfl hal ?_ | refine call_eq rfl o1 ?_ | refine ify ?_ | refine ifn ?_ | refine i6 ?_ | refine ati ?_ | refine mst ?_ | refine rmd ?_ | refine ibo (fun _ => ?_) (fun _ => ?_)) <;> conv => whnf))
    exact rfl
  rcases (first_case l).symm with ⟨m, p, r, hm, hp, rfl⟩ | ⟨m, hm, rfl⟩
  · have hr := right_no (X := X) hm hp r (by omega)
    (conv => whnf)
    (repeat' ((first | refine ord_ok (by (conv => whnf); (repeat' ((first | refine call_eq rfl hal ?_ | refine call_eq rfl o1 ?_ | refine call_eq rfl hr ?_ | refine ify ?_ | refine ifn ?_ | refine i6 ?_ | refine ati ?_ | refine mst ?_ | refine rmd ?_ | refine ibo (fun _ => ?_) (fun _ => ?_)) <;> conv => whnf)); (all_goals (repeat' (first | exact trivial | exact rfl | refine And.intro ?_ ?_)))) ?_ | refine call_eq rfl hal ?_ | refine call_eq rfl o1 ?_ | refine call_eq rfl hr ?_ | refine ify ?_ | refine ifn ?_ | refine i6 ?_ | refine ati ?_ | refine mst ?_ | refine rmd ?_ | refine ibo (fun _ => ?_) (fun _ => ?_)) <;> conv => whnf))
    exact rfl
  rw [← dPs_eq] at o1 ⊢
  rw [List.length_map] at h1
  have hdm1 : (m.map dP).length = m.length := List.length_map _
  have hr1 := right_ok (X := X) hm (by omega)
  by_cases h2 : 200 < rest.length
  · (conv => whnf)
    (repeat' ((first | refine ord_ok (by (conv => whnf); (repeat' ((first | refine call_eq rfl hal ?_ | refine call_eq rfl o1 ?_ | refine call_eq rfl hr1 ?_ | refine ify ?_ | refine ifn ?_ | refine i6 ?_ | refine ati ?_ | refine mst ?_ | refine rmd ?_ | refine ibo (fun _ => ?_) (fun _ => ?_)) <;> conv => whnf)); (all_goals (repeat' (first | exact trivial | exact rfl | refine And.intro ?_ ?_)))) ?_ | refine call_eq rfl hal ?_ | refine call_eq rfl o1 ?_ | refine call_eq rfl hr1 ?_ | refine ify ?_ | refine ifn ?_ | refine i6 ?_ | refine ati ?_ | refine mst ?_ | refine rmd ?_ | refine ibo (fun _ => ?_) (fun _ => ?_)) <;> conv => whnf))
    exact rfl
  have t1 := text_pure (X := X) m hm (by omega)
  have b1 := textB_len m hm
  have bi := badB_len i
  have bj := badB_len j
  have z1 := bs_size (textB m)
  have zi : (bs (badB i ++ [10])).size = (badB i).length + 1 := by rw [bs_size]; simp
  have zj : (bs (badB j ++ [10])).size = (badB j).length + 1 := by rw [bs_size]; simp
  have hps0 := parse_pure (X := X) (textB m) (by omega) (pars_all m hm)
  rw [show parseY m true = .tuple [dPs m, .nili] from rfl] at hps0
  have hps1 := parse_pure (X := X) (textB m ++ (badB i ++ 10 :: rest)) (by simp only [List.length_append, List.length_cons]; omega) (pars_bad m hm i rest)
  rw [show bs (textB m ++ (badB i ++ 10 :: rest)) = (bs (textB m) ++ bs (badB i ++ [10])) ++ bs rest by rw [bs_cat, bs_cat]; simp, show parseY m false = .tuple [.nils, dF 14 m.length lineS] from rfl] at hps1
  have hps2 := parse_pure (X := X) (textB m ++ (badB i ++ 10 :: (textB m ++ (badB j ++ 10 :: rest)))) (by simp only [List.length_append, List.length_cons]; omega) (pars_bad m hm i _)
  rw [show bs (textB m ++ (badB i ++ 10 :: (textB m ++ (badB j ++ 10 :: rest)))) = (((bs (textB m) ++ bs (badB i ++ [10])) ++ bs (textB m)) ++ bs (badB j ++ [10])) ++ bs rest by rw [bs_cat, bs_cat, bs_cat, bs_cat]; simp, show parseY m false = .tuple [.nils, dF 14 m.length lineS] from rfl] at hps2
  have y1 : (bs (textB m) ++ bs (badB i ++ [10])).size = (textB m).length + ((badB i).length + 1) := by rw [ByteArray.size_append]; omega
  have y2 : ((bs (textB m) ++ bs (badB i ++ [10])) ++ bs (textB m)).size = (textB m).length + ((badB i).length + 1) + (textB m).length := by rw [ByteArray.size_append]; omega
  have y3 : (((bs (textB m) ++ bs (badB i ++ [10])) ++ bs (textB m)) ++ bs (badB j ++ [10])).size = (textB m).length + ((badB i).length + 1) + (textB m).length + ((badB j).length + 1) := by rw [ByteArray.size_append]; omega
  have hc := Pure.up (X := X) (code_pure 14 m.length lineS)
  have hat := at_pure (X := X) 14 m.length lineS
  have hei := bads_at hi6
  have hej := bads_at hj6
  (conv => whnf)
  (repeat' ((first | refine ord_ok (by (conv => whnf); (repeat' ((first | refine call_eq rfl hal ?_ | refine call_eq rfl o1 ?_ | refine call_eq rfl hr1 ?_ | refine call_eq rfl t1 ?_ | refine el_at (i := i) hi (by exact hi6) ?_ | refine el_at (i := j) hj (by exact hj6) ?_ | refine el_is hei ?_ | refine el_is hej ?_ | refine cat_ok (by omega) ?_ | refine call_eq rfl hps0 ?_ | refine call_eq rfl hps1 ?_ | refine call_eq rfl hps2 ?_ | refine call_eq rfl hc ?_ | refine call_eq rfl hat ?_ | refine ify ?_ | refine ifn ?_ | refine i6 ?_ | refine ati ?_ | refine mst ?_ | refine rmd ?_ | refine ibo (fun _ => ?_) (fun _ => ?_)) <;> conv => whnf)); (all_goals (repeat' (first | exact trivial | exact rfl | refine And.intro ?_ ?_)))) ?_ | refine call_eq rfl hal ?_ | refine call_eq rfl o1 ?_ | refine call_eq rfl hr1 ?_ | refine call_eq rfl t1 ?_ | refine el_at (i := i) hi (by exact hi6) ?_ | refine el_at (i := j) hj (by exact hj6) ?_ | refine el_is hei ?_ | refine el_is hej ?_ | refine cat_ok (by omega) ?_ | refine call_eq rfl hps0 ?_ | refine call_eq rfl hps1 ?_ | refine call_eq rfl hps2 ?_ | refine call_eq rfl hc ?_ | refine call_eq rfl hat ?_ | refine ify ?_ | refine ifn ?_ | refine i6 ?_ | refine ati ?_ | refine mst ?_ | refine rmd ?_ | refine ibo (fun _ => ?_) (fun _ => ?_)) <;> conv => whnf))
  exact congrArg Da.bool (decide_eq_true rfl)
end Go.Proofs.YtdbafjjmdgdjgaaDoor
