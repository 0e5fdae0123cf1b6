/- script: Text. law25: alive. -/
import Derived.Test.YtdbafjjmdgdjgaaDoorSce
import Derived.Test.YtdbafjjmdgdjgaaDoorBld
namespace Go.Sx
open Go Go.RowKit Go.Reg
theorem call_turn_eq {C : Cx} {fr : Fr} {σ : Sg} {f : FuncId} {i : Nat} {args : List Dat} {xs : List Da} {r : Absn} {z : Da} {r0 : Absn} {K : KD} (hg : sget i σ = some r.own) (ha : allD args = some xs) (hp : TurnObj C f r xs (fun y r' => y = z ∧ r' = r0)) (hK : forceS (sturn id i r0.own σ) fun σ => K (.d z) fr σ) : SxCall C false f (.own i :: args) K fr σ :=
  call_turn hg ha hp fun y r' h => by obtain ⟨rfl, rfl⟩ := h; exact hK
end Go.Sx
namespace Go.Proofs.YtdbafjjmdgdjgaaDoor
open Go.Sx Go.RowKit Go.Reg Go.Gr
variable {X : LayG}

set_option maxRecDepth 100000
theorem bld_is {a b : List UInt8} (h : a = b) : some (bld a).own = some (bld b).own := by rw [h]
def pl_sct : List (Nat × Plan) := [(5, .leaf [0, 1, 0, 0, 0, 1, 2, 0, 0, 0] [0, 1, 2, 3, 4, 5, 6, 7, 8, 9] [0, 1, 3, 7, 15, 31, 15, 79, 255, 511]),
  (6, .leaf [2, 0, 1, 0, 1, 3] [1, 2, 0, 3, 4, 5] [0, 0, 2, 7, 15, 31])]
def G_sct : List FuncId := [24, 26, 27]
theorem cok_sct : codeOk Tryd.prog G_sct pl_sct (Tryd.f12.body.getD .skip) = true := by kernel_rfl
theorem run_sct (vs : Array Value) (w : World) : (callFunc 12 vs).run (C2 X).P w = .ok (.enter 12 vs) w := by kernel_rfl
set_option maxHeartbeats 4000000 in
theorem text_pure (m : List (Nat × Nat)) (hm : ∀ p ∈ m, actOk p) (hlm : m.length ≤ 1000000) : Pure (C2 X) 12 [dPs m] (fun y => y = .str (bs (textB m))) := by
  have hdl : (m.map dP).length = m.length := List.length_map _
  have hnm := names_pure (X := X)
  have hnl : namesD.length = 6 := rfl
  refine pure_of (c2_ok X) (pl := pl_sct) (G := G_sct) Tryd.func12 rfl Tryd.ntmps12 run_sct cok_sct (by simp) ?_
  ((conv => whnf); repeat' ((first | refine odw ?_ | refine ify ?_ | refine ifn ?_ | refine i6 ?_ | refine ati ?_ | refine mst ?_ | refine rmd ?_ | refine ibo (fun _ => ?_) (fun _ => ?_)) <;> conv => whnf))
  refine code_absn 3 (bld []) rfl (fun _ _ _ _ _ _ => bld_new) ?_
  show CodeSem (C2 X) _ _ _ _ [(3, (bld []).own)]
  refine loop_lo (ι := Nat) (fun i => i ≤ m.length) (fun i => [(8, .d (.int .i64 i)), (7, .d (.int .i64 m.length)), (6, .d (dPs m)), (3, .own 3)]) (fun i => [(3, (bld (textB (m.take i))).own)]) (fun i => m.length - i) 0 (fun _ => rfl) (Nat.zero_le _) (.refl _ _) ⟨rfl, by rw [← hdl]; rfl, rfl, rfl, trivial⟩ ⟨rfl, trivial⟩ ?_
  intro i hi
  refine sxCode_sound (c2_ok X) (G := G_sct) (pl := pl_sct) _ _ _ _ (by kernel_rfl) ?_
  by_cases hil : i < m.length
  · have hx := List.getElem?_eq_getElem hil
    have hpm := List.getElem_mem hil
    generalize m[i] = p at hx hpm
    obtain ⟨h6, hn, h0⟩ := hm p hpm
    have hxd : (m.map dP)[i]? = some (.agg [.int .i64 p.1, .int .i64 p.2]) := by rw [List.getElem?_map, hx]; rfl
    have h1 := textB_len (m.take i) (fun q hq => hm q (List.mem_of_mem_take hq))
    rw [List.length_take] at h1
    have h2 := textB_len [p] (fun q hq => by rw [List.mem_singleton.1 hq]; exact hm p hpm)
    rw [show textB [p] = lnB p.1 p.2 ++ [10] from rfl, List.length_append, List.length_singleton, List.length_singleton] at h2
    have e3 : textB (m.take (i + 1)) = textB (m.take i) ++ (lnB p.1 p.2 ++ [10]) := by rw [List.take_add_one, hx, textB_app]; rfl
    have hbr := bare_pure (X := X) p.1
    have hnd := names_at h6
    by_cases h4 : p.1 < 4
    · rw [decide_eq_false (by omega)] at hbr
      have el : lnB p.1 p.2 = nmB p.1 ++ 32 :: Lib.decDigits p.2 := if_pos h4
      have hit := itoa_pure X p.2 (by omega) (by omega)
      rw [itoa_nat] at hit
      rw [el, List.length_append, List.length_cons] at h2
      have ec : bs [32] ++ bs (Lib.decDigits p.2) = bs (32 :: Lib.decDigits p.2) := bs_cat _ _
      have w1 := wstr_obj X (textB (m.take i)) (nmB p.1) (by omega)
      have w2 := wstr_obj X (textB (m.take i) ++ nmB p.1) (32 :: Lib.decDigits p.2) (by simp only [List.length_append, List.length_cons]; omega)
      have w3 := wstr_obj X (textB (m.take i) ++ nmB p.1 ++ 32 :: Lib.decDigits p.2) [10] (by simp only [List.length_append, List.length_cons, List.length_nil]; omega)
      rw [← ec] at w2
      (conv => whnf)
      (repeat' ((first | refine ord_ok (by (conv => whnf); (repeat' ((first | refine at_ls hxd rfl ?_ | refine call_eq rfl hnm ?_ | refine call_eq rfl hbr ?_ | refine at_ls hnd rfl ?_ | refine call_eq rfl hit ?_ | refine cat_ok (a := bs [32]) (by rw [bs_size, bs_size, List.length_singleton]; omega) ?_ | refine call_turn_eq rfl rfl w1 ?_ | refine call_turn_eq rfl rfl w2 ?_ | refine call_turn_eq rfl rfl w3 ?_ | refine ify ?_ | refine ifn ?_ | refine i6 ?_ | refine ati ?_ | refine mst ?_ | refine rmd ?_ | refine ibo (fun _ => ?_) (fun _ => ?_)) <;> conv => whnf)); (all_goals (repeat' (first | exact trivial | exact rfl | refine And.intro ?_ ?_)))) ?_ | refine at_ls hxd rfl ?_ | refine call_eq rfl hnm ?_ | refine call_eq rfl hbr ?_ | refine at_ls hnd rfl ?_ | refine call_eq rfl hit ?_ | refine cat_ok (a := bs [32]) (by rw [bs_size, bs_size, List.length_singleton]; omega) ?_ | refine call_turn_eq rfl rfl w1 ?_ | refine call_turn_eq rfl rfl w2 ?_ | refine call_turn_eq rfl rfl w3 ?_ | refine ify ?_ | refine ifn ?_ | refine i6 ?_ | refine ati ?_ | refine mst ?_ | refine rmd ?_ | refine ibo (fun _ => ?_) (fun _ => ?_)) <;> conv => whnf))
      refine ⟨i + 1, _, _, by omega, .refl _ _, ⟨rfl, rfl, rfl, rfl, trivial⟩, ⟨?_, trivial⟩, by omega⟩
      refine bld_is ?_
      rw [e3, el]; simp
    · rw [decide_eq_true (by omega)] at hbr
      have el : lnB p.1 p.2 = nmB p.1 := if_neg h4
      rw [el] at h2
      have w1 := wstr_obj X (textB (m.take i)) (nmB p.1) (by omega)
      have w3 := wstr_obj X (textB (m.take i) ++ nmB p.1) [10] (by simp only [List.length_append, List.length_cons, List.length_nil]; omega)
      (conv => whnf)
      (repeat' ((first | refine ord_ok (by (conv => whnf); (repeat' ((first | refine at_ls hxd rfl ?_ | refine call_eq rfl hnm ?_ | refine call_eq rfl hbr ?_ | refine at_ls hnd rfl ?_ | refine call_turn_eq rfl rfl w1 ?_ | refine call_turn_eq rfl rfl w3 ?_ | refine ify ?_ | refine ifn ?_ | refine i6 ?_ | refine ati ?_ | refine mst ?_ | refine rmd ?_ | refine ibo (fun _ => ?_) (fun _ => ?_)) <;> conv => whnf)); (all_goals (repeat' (first | exact trivial | exact rfl | refine And.intro ?_ ?_)))) ?_ | refine at_ls hxd rfl ?_ | refine call_eq rfl hnm ?_ | refine call_eq rfl hbr ?_ | refine at_ls hnd rfl ?_ | refine call_turn_eq rfl rfl w1 ?_ | refine call_turn_eq rfl rfl w3 ?_ | refine ify ?_ | refine ifn ?_ | refine i6 ?_ | refine ati ?_ | refine mst ?_ | refine rmd ?_ | refine ibo (fun _ => ?_) (fun _ => ?_)) <;> conv => whnf))
      refine ⟨i + 1, _, _, by omega, .refl _ _, ⟨rfl, rfl, rfl, rfl, trivial⟩, ⟨?_, trivial⟩, by omega⟩
      refine bld_is ?_
      rw [e3, el]; simp
  · have e : m.take i = m := List.take_of_length_le (by omega)
    rw [e]
    have hs := str_obj X (textB m) (by have := textB_len m hm; omega)
    (conv => whnf)
    (repeat' ((first | refine ord_ok (by (conv => whnf); (repeat' ((first | refine call_turn_eq rfl rfl hs ?_ | refine ify ?_ | refine ifn ?_ | refine i6 ?_ | refine ati ?_ | refine mst ?_ | refine rmd ?_ | refine ibo (fun _ => ?_) (fun _ => ?_)) <;> conv => whnf)); (all_goals (repeat' (first | exact trivial | exact rfl | refine And.intro ?_ ?_)))) ?_ | refine call_turn_eq rfl rfl hs ?_ | refine ify ?_ | refine ifn ?_ | refine i6 ?_ | refine ati ?_ | refine mst ?_ | refine rmd ?_ | refine ibo (fun _ => ?_) (fun _ => ?_)) <;> conv => whnf))
    exact rfl
def pl_sal : List (Nat × Plan) := []
def G_sal : List FuncId := [10]
theorem cok_sal : codeOk Tryd.prog G_sal pl_sal (Tryd.f7.body.getD .skip) = true := by kernel_rfl
theorem run_sal (vs : Array Value) (w : World) : (callFunc 7 vs).run (C2 X).P w = .ok (.enter 7 vs) w := by kernel_rfl
set_option maxHeartbeats 2000000 in
theorem salive_pure : Pure (C2 X) 7 [] (fun y => y = .bool true) := by
  have e1 : textB [(0, 1), (4, 0)] = [119, 111, 114, 107, 32, 49, 10, 112, 97, 115, 115, 10] := by
    simp only [textB, lnB, nmB]
    rw [Lib.decDigits_one (by omega)]
    rfl
  have p1 := pars_all [(0, 1), (4, 0)] (by
    intro p hp
    simp only [List.mem_cons, List.not_mem_nil, or_false] at hp
    rcases hp with rfl | rfl
    · exact ⟨by decide, by decide, fun h => by simp at h⟩
    · exact ⟨by decide, by decide, fun _ => rfl⟩)
  rw [e1] at p1
  have q1 := parse_pure (X := X) _ (by decide) p1
  have p2 : Pars [119, 111, 114, 107, 10] [] false := Pars.bad (r := []) (badB_no 1) (badB_bad 1)
  have q2 := parse_pure (X := X) _ (by decide) p2
  have hc := Pure.up (X := X) (code_pure 14 0 lineS)
  have hd0 : (([(0, 1), (4, 0)] : List (Nat × Nat)).map dP)[0]? = some (.agg [.int .i64 0, .int .i64 1]) := rfl
  have hd1 : (([(0, 1), (4, 0)] : List (Nat × Nat)).map dP)[1]? = some (.agg [.int .i64 4, .int .i64 0]) := rfl
  refine pure_of (c2_ok X) (pl := pl_sal) (G := G_sal) Tryd.func7 rfl Tryd.ntmps7 run_sal cok_sal (by simp) ?_
  (conv => whnf)
  (repeat' ((first | refine ord_ok (by (conv => whnf); (repeat' ((first | refine call_eq (xs := [.str (bs _)]) rfl q1 ?_ | refine call_eq (xs := [.str (bs _)]) rfl q2 ?_ | refine call_eq rfl hc ?_ | refine at_ls hd0 rfl ?_ | refine at_ls hd1 rfl ?_ | refine ify ?_ | refine ifn ?_ | refine i6 ?_ | refine ati ?_ | refine mst ?_ | refine rmd ?_ | refine ibo (fun _ => ?_) (fun _ => ?_)) <;> conv => whnf)); (all_goals (repeat' (first | exact trivial | exact rfl | refine And.intro ?_ ?_)))) ?_ | refine call_eq (xs := [.str (bs _)]) rfl q1 ?_ | refine call_eq (xs := [.str (bs _)]) rfl q2 ?_ | refine call_eq rfl hc ?_ | refine at_ls hd0 rfl ?_ | refine at_ls hd1 rfl ?_ | refine ify ?_ | refine ifn ?_ | refine i6 ?_ | refine ati ?_ | refine mst ?_ | refine rmd ?_ | refine ibo (fun _ => ?_) (fun _ => ?_)) <;> conv => whnf))
  exact rfl
end Go.Proofs.YtdbafjjmdgdjgaaDoor
