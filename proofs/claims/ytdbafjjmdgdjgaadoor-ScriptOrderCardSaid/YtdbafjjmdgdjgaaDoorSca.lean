/- script: bare, names, slices.Index at strings, wrong, act. · fault.At. -/
import Derived.Test.YtdbafjjmdgdjgaaDoorScx
import Derived.Test.YtdbafjjmdgdjgaaDoorFau
namespace Go.Proofs.YtdbafjjmdgdjgaaDoor
open Go.Sx Go.RowKit Go.Reg Go.Gr
variable {X : LayG}

set_option maxRecDepth 100000
theorem at_pure (c a : Int) (s : ByteArray) : Pure (C2 X) 11 [dF c a s] (fun y => y = .int .i64 a) := by
  refine pure_of (c2_ok X) (pl := []) (G := []) Tryd.func11 rfl Tryd.ntmps11 (by intro vs w; kernel_rfl) (by kernel_rfl) (by simp) ?_
  ((conv => whnf); repeat' ((first | refine odw ?_ | refine ify ?_ | refine ifn ?_ | refine i6 ?_ | refine ati ?_ | refine mst ?_ | refine rmd ?_ | refine ibo (fun _ => ?_) (fun _ => ?_)) <;> conv => whnf))
  refine call_pure rfl (Pure.up (ffault_pure c a s)) ?_; rintro y rfl
  ((conv => whnf); repeat' ((first | refine odw ?_ | refine ify ?_ | refine ifn ?_ | refine i6 ?_ | refine ati ?_ | refine mst ?_ | refine rmd ?_ | refine ibo (fun _ => ?_) (fun _ => ?_)) <;> conv => whnf))
  all_goals exact rfl
def namesD : List Da := (List.range 6).map fun k => .str (bs (nmB k))
theorem names_at {i : Nat} (h : i < 6) : namesD[i]? = some (.str (bs (nmB i))) := by
  unfold namesD
  rw [List.getElem?_map, List.getElem?_range h]; rfl
def pl_scb : List (Nat × Plan) := []
def G_scb : List FuncId := []
theorem cok_scb : codeOk Tryd.prog G_scb pl_scb (Tryd.f26.body.getD .skip) = true := by kernel_rfl
theorem run_scb (vs : Array Value) (w : World) : (callFunc 26 vs).run (C2 X).P w = .ok (.enter 26 vs) w := by kernel_rfl
theorem bare_pure (k : Int) : Pure (C2 X) 26 [.int .i64 k] (fun y => y = .bool (decide (k = 4 ∨ k = 5))) := by
  refine pure_of (c2_ok X) (pl := pl_scb) (G := G_scb) Tryd.func26 rfl Tryd.ntmps26 run_scb cok_scb (by simp) ?_
  by_cases h4 : k = 4
  · rw [decide_eq_true (.inl h4)]
    ((conv => whnf); repeat' ((first | refine odw ?_ | refine ify ?_ | refine ifn ?_ | refine i6 ?_ | refine ati ?_ | refine mst ?_ | refine rmd ?_ | refine ibo (fun _ => ?_) (fun _ => ?_)) <;> conv => whnf))
    exact rfl
  · by_cases h5 : k = 5
    · rw [decide_eq_true (.inr h5)]
      ((conv => whnf); repeat' ((first | refine odw ?_ | refine ify ?_ | refine ifn ?_ | refine i6 ?_ | refine ati ?_ | refine mst ?_ | refine rmd ?_ | refine ibo (fun _ => ?_) (fun _ => ?_)) <;> conv => whnf))
      exact rfl
    · rw [decide_eq_false (by omega)]
      ((conv => whnf); repeat' ((first | refine odw ?_ | refine ify ?_ | refine ifn ?_ | refine i6 ?_ | refine ati ?_ | refine mst ?_ | refine rmd ?_ | refine ibo (fun _ => ?_) (fun _ => ?_)) <;> conv => whnf))
      exact rfl
def pl_scn : List (Nat × Plan) := []
def G_scn : List FuncId := []
theorem cok_scn : codeOk Tryd.prog G_scn pl_scn (Tryd.f24.body.getD .skip) = true := by kernel_rfl
theorem run_scn (vs : Array Value) (w : World) : (callFunc 24 vs).run (C2 X).P w = .ok (.enter 24 vs) w := by kernel_rfl
theorem names_pure : Pure (C2 X) 24 [] (fun y => y = .list 1 namesD) := by
  refine pure_of (c2_ok X) (pl := pl_scn) (G := G_scn) Tryd.func24 rfl Tryd.ntmps24 run_scn cok_scn (by simp) ?_
  ((conv => whnf); repeat' ((first | refine odw ?_ | refine ify ?_ | refine ifn ?_ | refine i6 ?_ | refine ati ?_ | refine mst ?_ | refine rmd ?_ | refine ibo (fun _ => ?_) (fun _ => ?_)) <;> conv => whnf))
  exact rfl
def pl_scw : List (Nat × Plan) := []
def G_scw : List FuncId := []
theorem cok_scw : codeOk Tryd.prog G_scw pl_scw (Tryd.f21.body.getD .skip) = true := by kernel_rfl
theorem run_scw (vs : Array Value) (w : World) : (callFunc 21 vs).run (C2 X).P w = .ok (.enter 21 vs) w := by kernel_rfl
theorem wrong_pure (a : Int) (s : ByteArray) : Pure (C2 X) 21 [.int .i64 a, .str s] (fun y => y = dF 14 a s) := by
  refine pure_of (c2_ok X) (pl := pl_scw) (G := G_scw) Tryd.func21 rfl Tryd.ntmps21 run_scw cok_scw (by simp) ?_
  (conv => whnf)
  (repeat' ((first | refine ord_ok (by (conv => whnf); (repeat' ((first | refine call_eq rfl (Pure.up (fnew_pure 14 a s)) ?_ | refine ify ?_ | refine ifn ?_ | refine i6 ?_ | refine ati ?_ | refine mst ?_ | refine rmd ?_ | refine ibo (fun _ => ?_) (fun _ => ?_)) <;> conv => whnf)); (all_goals (repeat' (first | exact trivial | exact rfl | refine And.intro ?_ ?_)))) ?_ | refine call_eq rfl (Pure.up (fnew_pure 14 a s)) ?_ | refine ify ?_ | refine ifn ?_ | refine i6 ?_ | refine ati ?_ | refine mst ?_ | refine rmd ?_ | refine ibo (fun _ => ?_) (fun _ => ?_)) <;> conv => whnf))
  exact rfl
def pl_sci : List (Nat × Plan) := []
def G_sci : List FuncId := []
theorem cok_sci : codeOk Tryd.prog G_sci pl_sci (Tryd.f30.body.getD .skip) = true := by kernel_rfl
theorem run_sci (vs : Array Value) (w : World) : (callFunc 30 vs).run (C2 X).P w = .ok (.enter 30 vs) w := by kernel_rfl
theorem sidx_pure (b : List UInt8) : Pure (C2 X) 30 [.list 1 namesD, .str (bs b)] (fun y => (y = .int .i64 (-1) ∧ ∀ k, k < 6 → b ≠ nmB k) ∨ ∃ k : Nat, k < 6 ∧ b = nmB k ∧ y = .int .i64 k) := by
  have hl : namesD.length = 6 := rfl
  refine pure_of (c2_ok X) (pl := pl_sci) (G := G_sci) Tryd.func30 rfl Tryd.ntmps30 run_sci cok_sci (by simp) ?_
  ((conv => whnf); repeat' ((first | refine odw ?_ | refine ify ?_ | refine ifn ?_ | refine i6 ?_ | refine ati ?_ | refine mst ?_ | refine rmd ?_ | refine ibo (fun _ => ?_) (fun _ => ?_)) <;> conv => whnf))
  refine loop_lo (ι := Nat) (fun i => i ≤ 6 ∧ ∀ k, k < i → b ≠ nmB k) (fun i => [(8, .d (.int .i64 i)), (7, .d (.int .i64 6)), (1, .d (.str (bs b))), (0, .d (.list 1 namesD))]) (fun _ => []) (fun i => 6 - i) 0 (fun _ => rfl) ⟨Nat.zero_le _, (by intro k h; omega)⟩ (.refl _ _) ⟨rfl, rfl, rfl, rfl, trivial⟩ trivial ?_
  rintro i ⟨hi, hn⟩
  refine sxCode_sound (c2_ok X) (G := G_sci) (pl := pl_sci) _ _ _ _ (by kernel_rfl) ?_
  by_cases h6 : i < 6
  · have hd := names_at h6
    by_cases hc : bs b = bs (nmB i)
    · (conv => whnf)
      (repeat' ((first | refine ord_ok (by (conv => whnf); (repeat' ((first | refine at_ls hd rfl ?_ | refine ify ?_ | refine ifn ?_ | refine i6 ?_ | refine ati ?_ | refine mst ?_ | refine rmd ?_ | refine ibo (fun _ => ?_) (fun _ => ?_)) <;> conv => whnf)); (all_goals (repeat' (first | exact trivial | exact rfl | refine And.intro ?_ ?_)))) ?_ | refine at_ls hd rfl ?_ | refine ify ?_ | refine ifn ?_ | refine i6 ?_ | refine ati ?_ | refine mst ?_ | refine rmd ?_ | refine ibo (fun _ => ?_) (fun _ => ?_)) <;> conv => whnf))
      exact .inr ⟨i, h6, bs_inj hc, rfl⟩
    · (conv => whnf)
      (repeat' ((first | refine ord_ok (by (conv => whnf); (repeat' ((first | refine at_ls hd rfl ?_ | refine ify ?_ | refine ifn ?_ | refine i6 ?_ | refine ati ?_ | refine mst ?_ | refine rmd ?_ | refine ibo (fun _ => ?_) (fun _ => ?_)) <;> conv => whnf)); (all_goals (repeat' (first | exact trivial | exact rfl | refine And.intro ?_ ?_)))) ?_ | refine at_ls hd rfl ?_ | refine ify ?_ | refine ifn ?_ | refine i6 ?_ | refine ati ?_ | refine mst ?_ | refine rmd ?_ | refine ibo (fun _ => ?_) (fun _ => ?_)) <;> conv => whnf))
      refine ⟨i + 1, _, _, ⟨h6, fun k hk => ?_⟩, .refl _ _, ⟨rfl, rfl, rfl, rfl, trivial⟩, trivial, by omega⟩
      rcases Nat.lt_or_ge k i with h | h
      · exact hn k h
      · intro e
        have : k = i := by omega
        subst this
        exact hc (by rw [e])
  · ((conv => whnf); repeat' ((first | refine odw ?_ | refine ify ?_ | refine ifn ?_ | refine i6 ?_ | refine ati ?_ | refine mst ?_ | refine rmd ?_ | refine ibo (fun _ => ?_) (fun _ => ?_)) <;> conv => whnf))
    exact .inl ⟨rfl, fun k hk => hn k (by omega)⟩
/-- acts -/
def dP (p : Nat × Nat) : Da := .agg [.int .i64 p.1, .int .i64 p.2]
def dPs (l : List (Nat × Nat)) : Da := .list 2 (l.map dP)
def actY (b : List UInt8) (y : Da) : Prop := (∃ p, IsAct b p ∧ y = .tuple [dP p, .bool true]) ∨ ∃ u v : Int, (∀ p, ¬ IsAct b p) ∧ y = .tuple [.agg [.int .i64 u, .int .i64 v], .bool false]
theorem itoa_nat (n : Nat) : Lib.itoa n = Lib.decDigits n := by
  unfold Lib.itoa
  rw [if_neg (by omega)]; simp
theorem atoi_range {r : List UInt8} {v : Int} (h : Lib.atoiAll r = .ok v) : -9223372036854775808 ≤ v ∧ v ≤ 9223372036854775807 := by
  cases r with
  | nil => cases h
  | cons c r =>
    simp only [Lib.atoiAll] at h
    split at h
    · cases h
    · cases h
    · rename_i u _
      split at h
      · cases h
      · split at h
        · cases h
        · injection h with h
          split at h <;> omega
def pl_sca : List (Nat × Plan) := [(9, .leaf [1, 0, 0, 0, 0, 2, 0, 0, 0, 0, 0, 0, 0, 0, 0, 0, 0, 3, 0] [1, 2, 3, 4, 6, 0, 5, 7, 8, 9, 10, 11, 12, 13, 14, 15, 16, 17, 18] [0, 0, 2, 6, 14, 30, 14, 126, 254, 510, 1022, 2046, 4094, 8190, 16382, 32766, 65534, 16383, 262143])]
def G_sca : List FuncId := [27]
theorem cok_sca : codeOk Tryd.prog G_sca pl_sca (Tryd.f20.body.getD .skip) = true := by kernel_rfl
theorem run_sca (vs : Array Value) (w : World) : (callFunc 20 vs).run (C2 X).P w = .ok (.enter 20 vs) w := by kernel_rfl
set_option maxHeartbeats 4000000 in
theorem act_pure (b : List UInt8) (hb : b.length ≤ 1000000) : Pure (C2 X) 20 [.str (bs b)] (actY b) := by
  have hcut := cut_pure X b [32] hb
  have hnm := names_pure (X := X)
  refine pure_of (c2_ok X) (pl := pl_sca) (G := G_sca) Tryd.func20 rfl Tryd.ntmps20 run_sca cok_sca (by simp) ?_
  rcases sep_case 32 b with hno | ⟨w, r, hno, rfl⟩
  · rw [cut_none 32 b hno] at hcut
    have hp4 : ∀ p, IsAct b p → ¬ p.1 < 4 := by
      rintro p ⟨_, h⟩ hp
      refine hno ?_
      rw [h]; unfold lnB
      rw [if_pos hp]
      exact List.mem_append_right _ (.head _)
    have hp5 : ∀ p, IsAct b p → b = nmB p.1 := by
      rintro p h
      have h4 := hp4 p h
      rw [h.2]; unfold lnB
      rw [if_neg h4]
    (conv => whnf)
    (repeat' ((first | refine ord_ok (by (conv => whnf); (repeat' ((first | refine call_eq rfl hcut ?_ | refine call_eq rfl hnm ?_ | refine ify ?_ | refine ifn ?_ | refine i6 ?_ | refine ati ?_ | refine mst ?_ | refine rmd ?_ | refine ibo (fun _ => ?_) (fun _ => ?_)) <;> conv => whnf)); (all_goals (repeat' (first | exact trivial | exact rfl | refine And.intro ?_ ?_)))) ?_ | refine call_eq rfl hcut ?_ | refine call_eq rfl hnm ?_ | refine ify ?_ | refine ifn ?_ | refine i6 ?_ | refine ati ?_ | refine mst ?_ | refine rmd ?_ | refine ibo (fun _ => ?_) (fun _ => ?_)) <;> conv => whnf))
    refine call_pure rfl (sidx_pure b) ?_
    rintro y (⟨rfl, hk⟩ | ⟨k, hk, hkb, rfl⟩)
    · (conv => whnf)
      (repeat' ((first | refine ord_ok (by (conv => whnf); (repeat' ((first | refine el_is rfl ?_ | refine ify ?_ | refine ifn ?_ | refine i6 ?_ | refine ati ?_ | refine mst ?_ | refine rmd ?_ | refine ibo (fun _ => ?_) (fun _ => ?_)) <;> conv => whnf)); (all_goals (repeat' (first | exact trivial | exact rfl | refine And.intro ?_ ?_)))) ?_ | refine el_is rfl ?_ | refine ify ?_ | refine ifn ?_ | refine i6 ?_ | refine ati ?_ | refine mst ?_ | refine rmd ?_ | refine ibo (fun _ => ?_) (fun _ => ?_)) <;> conv => whnf))
      exact .inr ⟨_, _, (fun p h => hk p.1 h.1.1 (hp5 p h)), rfl⟩
    · have hbr := bare_pure (X := X) k
      by_cases h4 : k < 4
      · rw [decide_eq_false (by omega)] at hbr
        (conv => whnf)
        (repeat' ((first | refine ord_ok (by (conv => whnf); (repeat' ((first | refine call_eq rfl hbr ?_ | refine el_is rfl ?_ | refine if_yes Iff.rfl ?_ | refine ify ?_ | refine ifn ?_ | refine i6 ?_ | refine ati ?_ | refine mst ?_ | refine rmd ?_ | refine ibo (fun _ => ?_) (fun _ => ?_)) <;> conv => whnf)); (all_goals (repeat' (first | exact trivial | exact rfl | refine And.intro ?_ ?_)))) ?_ | refine call_eq rfl hbr ?_ | refine el_is rfl ?_ | refine if_yes Iff.rfl ?_ | refine ify ?_ | refine ifn ?_ | refine i6 ?_ | refine ati ?_ | refine mst ?_ | refine rmd ?_ | refine ibo (fun _ => ?_) (fun _ => ?_)) <;> conv => whnf))
        exact .inr ⟨_, _, (fun p h => hp4 p h (by rw [← nmB_inj hk h.1.1 (hkb.symm.trans (hp5 p h))]; exact h4)), rfl⟩
      · rw [decide_eq_true (by omega)] at hbr
        (conv => whnf)
        (repeat' ((first | refine ord_ok (by (conv => whnf); (repeat' ((first | refine call_eq rfl hbr ?_ | refine el_is rfl ?_ | refine if_no (show ¬ ((false = true) ↔ (true = true)) by decide) ?_ | refine ify ?_ | refine ifn ?_ | refine i6 ?_ | refine ati ?_ | refine mst ?_ | refine rmd ?_ | refine ibo (fun _ => ?_) (fun _ => ?_)) <;> conv => whnf)); (all_goals (repeat' (first | exact trivial | exact rfl | refine And.intro ?_ ?_)))) ?_ | refine call_eq rfl hbr ?_ | refine el_is rfl ?_ | refine if_no (show ¬ ((false = true) ↔ (true = true)) by decide) ?_ | refine ify ?_ | refine ifn ?_ | refine i6 ?_ | refine ati ?_ | refine mst ?_ | refine rmd ?_ | refine ibo (fun _ => ?_) (fun _ => ?_)) <;> conv => whnf))
        exact .inl ⟨(k, 0), ⟨⟨hk, by omega, fun _ => rfl⟩, by rw [hkb]; unfold lnB; rw [if_neg (by omega)]⟩, rfl⟩
  · rw [cut_sep 32 w r hno] at hcut
    have hp4 : ∀ p, IsAct (w ++ 32 :: r) p → p.1 < 4 ∧ w = nmB p.1 ∧ r = Lib.decDigits p.2 := by
      rintro p ⟨_, h⟩
      by_cases hp : p.1 < 4
      · unfold lnB at h
        rw [if_pos hp] at h
        exact ⟨hp, sep_uniq hno (nmB_no _).2.1 h⟩
      · unfold lnB at h
        rw [if_neg hp] at h
        exact absurd (h ▸ List.mem_append_right _ (.head _)) (nmB_no p.1).2.1
    (conv => whnf)
    (repeat' ((first | refine ord_ok (by (conv => whnf); (repeat' ((first | refine call_eq rfl hcut ?_ | refine call_eq rfl hnm ?_ | refine ify ?_ | refine ifn ?_ | refine i6 ?_ | refine ati ?_ | refine mst ?_ | refine rmd ?_ | refine ibo (fun _ => ?_) (fun _ => ?_)) <;> conv => whnf)); (all_goals (repeat' (first | exact trivial | exact rfl | refine And.intro ?_ ?_)))) ?_ | refine call_eq rfl hcut ?_ | refine call_eq rfl hnm ?_ | refine ify ?_ | refine ifn ?_ | refine i6 ?_ | refine ati ?_ | refine mst ?_ | refine rmd ?_ | refine ibo (fun _ => ?_) (fun _ => ?_)) <;> conv => whnf))
    refine call_pure rfl (sidx_pure w) ?_
    rintro y (⟨rfl, hk⟩ | ⟨k, hk, hkb, rfl⟩)
    · (conv => whnf)
      (repeat' ((first | refine ord_ok (by (conv => whnf); (repeat' ((first | refine el_is rfl ?_ | refine ify ?_ | refine ifn ?_ | refine i6 ?_ | refine ati ?_ | refine mst ?_ | refine rmd ?_ | refine ibo (fun _ => ?_) (fun _ => ?_)) <;> conv => whnf)); (all_goals (repeat' (first | exact trivial | exact rfl | refine And.intro ?_ ?_)))) ?_ | refine el_is rfl ?_ | refine ify ?_ | refine ifn ?_ | refine i6 ?_ | refine ati ?_ | refine mst ?_ | refine rmd ?_ | refine ibo (fun _ => ?_) (fun _ => ?_)) <;> conv => whnf))
      exact .inr ⟨_, _, (fun p h => hk p.1 h.1.1 (hp4 p h).2.1), rfl⟩
    · have hbr := bare_pure (X := X) k
      by_cases h4 : k < 4
      · rw [decide_eq_false (by omega)] at hbr
        (conv => whnf)
        (repeat' ((first | refine ord_ok (by (conv => whnf); (repeat' ((first | refine call_eq rfl hbr ?_ | refine el_is rfl ?_ | refine if_no (show ¬ ((true = true) ↔ (false = true)) by decide) ?_ | refine ify ?_ | refine ifn ?_ | refine i6 ?_ | refine ati ?_ | refine mst ?_ | refine rmd ?_ | refine ibo (fun _ => ?_) (fun _ => ?_)) <;> conv => whnf)); (all_goals (repeat' (first | exact trivial | exact rfl | refine And.intro ?_ ?_)))) ?_ | refine call_eq rfl hbr ?_ | refine el_is rfl ?_ | refine if_no (show ¬ ((true = true) ↔ (false = true)) by decide) ?_ | refine ify ?_ | refine ifn ?_ | refine i6 ?_ | refine ati ?_ | refine mst ?_ | refine rmd ?_ | refine ibo (fun _ => ?_) (fun _ => ?_)) <;> conv => whnf))
        refine call_pure rfl (atoi_pure X r (by rw [List.length_append, List.length_cons] at hb; omega)) ?_
        rintro y (⟨v, hv, rfl⟩ | ⟨v, t, q, hv, rfl⟩)
        · have hv2 := atoi_range hv
          have hit := itoa_pure X v hv2.1 hv2.2
          have hno2 : ∀ p, IsAct (w ++ 32 :: r) p → v = p.2 ∧ bs (Lib.itoa v) = bs r ∧ v ≤ 999999 := by
            intro p h
            obtain ⟨_, _, h3⟩ := hp4 p h
            have h5 := atoi_dd p.2 h.1.2.1
            rw [← h3, hv] at h5
            injection h5 with h5
            refine ⟨h5, ?_, ?_⟩
            · rw [h5, itoa_nat, h3]
            · have := h.1.2.1
              omega
          by_cases he : bs (Lib.itoa v) = bs r
          · by_cases h0 : 0 ≤ v
            · by_cases h9 : v ≤ 999999
              · (conv => whnf)
                (repeat' ((first | refine ord_ok (by (conv => whnf); (repeat' ((first | refine call_eq rfl hit ?_ | refine el_is rfl ?_ | refine ify ?_ | refine ifn ?_ | refine i6 ?_ | refine ati ?_ | refine mst ?_ | refine rmd ?_ | refine ibo (fun _ => ?_) (fun _ => ?_)) <;> conv => whnf)); (all_goals (repeat' (first | exact trivial | exact rfl | refine And.intro ?_ ?_)))) ?_ | refine call_eq rfl hit ?_ | refine el_is rfl ?_ | refine ify ?_ | refine ifn ?_ | refine i6 ?_ | refine ati ?_ | refine mst ?_ | refine rmd ?_ | refine ibo (fun _ => ?_) (fun _ => ?_)) <;> conv => whnf))
                obtain ⟨n, rfl⟩ : ∃ n : Nat, v = n := ⟨v.toNat, by omega⟩
                rw [itoa_nat] at he
                refine .inl ⟨(k, n), ⟨⟨hk, by omega, fun h => by omega⟩, ?_⟩, (show _ = Da.tuple [dP (k, n), .bool (decide ((n : Int) ≤ 999999))] from rfl).trans (by rw [decide_eq_true h9])⟩
                unfold lnB
                rw [if_pos h4, ← hkb, bs_inj he]
              · (conv => whnf)
                (repeat' ((first | refine ord_ok (by (conv => whnf); (repeat' ((first | refine call_eq rfl hit ?_ | refine el_is rfl ?_ | refine ify ?_ | refine ifn ?_ | refine i6 ?_ | refine ati ?_ | refine mst ?_ | refine rmd ?_ | refine ibo (fun _ => ?_) (fun _ => ?_)) <;> conv => whnf)); (all_goals (repeat' (first | exact trivial | exact rfl | refine And.intro ?_ ?_)))) ?_ | refine call_eq rfl hit ?_ | refine el_is rfl ?_ | refine ify ?_ | refine ifn ?_ | refine i6 ?_ | refine ati ?_ | refine mst ?_ | refine rmd ?_ | refine ibo (fun _ => ?_) (fun _ => ?_)) <;> conv => whnf))
                exact .inr ⟨k, v, (fun p h => h9 (hno2 p h).2.2), (show _ = Da.tuple [.agg [.int .i64 k, .int .i64 v], .bool (decide (v ≤ 999999))] from rfl).trans (by rw [decide_eq_false h9])⟩
            · (conv => whnf)
              (repeat' ((first | refine ord_ok (by (conv => whnf); (repeat' ((first | refine call_eq rfl hit ?_ | refine el_is rfl ?_ | refine ify ?_ | refine ifn ?_ | refine i6 ?_ | refine ati ?_ | refine mst ?_ | refine rmd ?_ | refine ibo (fun _ => ?_) (fun _ => ?_)) <;> conv => whnf)); (all_goals (repeat' (first | exact trivial | exact rfl | refine And.intro ?_ ?_)))) ?_ | refine call_eq rfl hit ?_ | refine el_is rfl ?_ | refine ify ?_ | refine ifn ?_ | refine i6 ?_ | refine ati ?_ | refine mst ?_ | refine rmd ?_ | refine ibo (fun _ => ?_) (fun _ => ?_)) <;> conv => whnf))
              exact .inr ⟨_, _, (fun p h => h0 (by rw [(hno2 p h).1]; omega)), rfl⟩
          · (conv => whnf)
            (repeat' ((first | refine ord_ok (by (conv => whnf); (repeat' ((first | refine call_eq rfl hit ?_ | refine el_is rfl ?_ | refine ify ?_ | refine ifn ?_ | refine i6 ?_ | refine ati ?_ | refine mst ?_ | refine rmd ?_ | refine ibo (fun _ => ?_) (fun _ => ?_)) <;> conv => whnf)); (all_goals (repeat' (first | exact trivial | exact rfl | refine And.intro ?_ ?_)))) ?_ | refine call_eq rfl hit ?_ | refine el_is rfl ?_ | refine ify ?_ | refine ifn ?_ | refine i6 ?_ | refine ati ?_ | refine mst ?_ | refine rmd ?_ | refine ibo (fun _ => ?_) (fun _ => ?_)) <;> conv => whnf))
            exact .inr ⟨_, _, (fun p h => he (hno2 p h).2.1), rfl⟩
        · (conv => whnf)
          (repeat' ((first | refine ord_ok (by (conv => whnf); (repeat' ((first | refine el_is rfl ?_ | refine ify ?_ | refine ifn ?_ | refine i6 ?_ | refine ati ?_ | refine mst ?_ | refine rmd ?_ | refine ibo (fun _ => ?_) (fun _ => ?_)) <;> conv => whnf)); (all_goals (repeat' (first | exact trivial | exact rfl | refine And.intro ?_ ?_)))) ?_ | refine el_is rfl ?_ | refine ify ?_ | refine ifn ?_ | refine i6 ?_ | refine ati ?_ | refine mst ?_ | refine rmd ?_ | refine ibo (fun _ => ?_) (fun _ => ?_)) <;> conv => whnf))
          refine .inr ⟨_, _, (fun p h => ?_), rfl⟩
          obtain ⟨_, _, h3⟩ := hp4 p h
          exact hv _ (h3 ▸ atoi_dd p.2 h.1.2.1)
      · rw [decide_eq_true (by omega)] at hbr
        (conv => whnf)
        (repeat' ((first | refine ord_ok (by (conv => whnf); (repeat' ((first | refine call_eq rfl hbr ?_ | refine el_is rfl ?_ | refine if_yes Iff.rfl ?_ | refine ify ?_ | refine ifn ?_ | refine i6 ?_ | refine ati ?_ | refine mst ?_ | refine rmd ?_ | refine ibo (fun _ => ?_) (fun _ => ?_)) <;> conv => whnf)); (all_goals (repeat' (first | exact trivial | exact rfl | refine And.intro ?_ ?_)))) ?_ | refine call_eq rfl hbr ?_ | refine el_is rfl ?_ | refine if_yes Iff.rfl ?_ | refine ify ?_ | refine ifn ?_ | refine i6 ?_ | refine ati ?_ | refine mst ?_ | refine rmd ?_ | refine ibo (fun _ => ?_) (fun _ => ?_)) <;> conv => whnf))
        exact .inr ⟨_, _, (fun p h => h4 (by rw [nmB_inj hk h.1.1 (hkb.symm.trans (hp4 p h).2.1)]; exact (hp4 p h).1)), rfl⟩
end Go.Proofs.YtdbafjjmdgdjgaaDoor
