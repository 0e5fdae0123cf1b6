/- law25: ScriptParses, ScriptTexts, ScriptCounts, ScriptOrder: the walks. -/
import Derived.Test.YtdbafjjmdgdjgaaDoorScf
namespace Go.Gr
open Go
theorem pars_ex : ∀ (n : Nat) (s : List UInt8), s.length ≤ n → ∃ l ok, Pars s l ok
  | 0, s, h => by
    have : s = [] := List.length_eq_zero_iff.1 (by omega)
    subst this
    exact ⟨_, _, .nil⟩
  | n + 1, s, h => by
    rcases sep_case 10 s with hno | ⟨b, r, hno, rfl⟩
    · by_cases hs : s = []
      · subst hs
        exact ⟨_, _, .nil⟩
      · exact ⟨_, _, .last hno hs⟩
    · by_cases ha : ∃ p, IsAct b p
      · obtain ⟨p, hp⟩ := ha
        rw [List.length_append, List.length_cons] at h
        obtain ⟨l, ok, hr⟩ := pars_ex n r (by omega)
        exact ⟨_, _, .line hp hr⟩
      · exact ⟨_, _, .bad hno fun p hp => ha ⟨p, hp⟩⟩
theorem pars_cut {m : List (Nat × Nat)} (hm : ∀ p ∈ m, actOk p) (h : m ≠ []) : ∃ m', m.length = m'.length + 1 ∧ Pars ((textB m).take ((textB m).length - 1)) m' false := by
  rcases List.eq_nil_or_concat m with rfl | ⟨m', p, rfl⟩
  · exact absurd rfl h
  · rw [List.concat_eq_append] at hm ⊢
    refine ⟨m', by simp, ?_⟩
    have e : textB (m' ++ [p]) = (textB m' ++ lnB p.1 p.2) ++ [10] := by rw [textB_app]; simp [textB]
    rw [e, List.length_append, List.length_singleton, Nat.add_sub_cancel, List.take_left' rfl]
    have := pars_text (.last (lnB_no p.1 p.2) (lnB_ne p.1 p.2)) m' (fun q hq => hm q (List.mem_append_left _ hq))
    rwa [List.append_nil] at this
theorem textB_ge : ∀ m : List (Nat × Nat), m.length ≤ (textB m).length
  | [] => Nat.le_refl _
  | p :: m => by
    have := textB_ge m
    simp only [textB, List.length_append, List.length_cons]; omega
theorem textB_nil {m : List (Nat × Nat)} (h : (textB m).length = 0) : m = [] := by
  cases m with
  | nil => rfl
  | cons p m => simp [textB] at h
end Go.Gr
namespace Go.Proofs.YtdbafjjmdgdjgaaDoor
open Go.Sx Go.RowKit Go.Reg Go.Gr
variable {X : LayG}

set_option maxRecDepth 100000
theorem fbad_ok {m : List (Nat × Nat)} (hm : ∀ p ∈ m, actOk p) : fbad (m.map toI) = none := fbad_none fun k q _ hq => by
  obtain ⟨p, hp, rfl⟩ := List.mem_map.1 (List.mem_of_getElem? hq)
  exact ok_toI (hm p hp)
theorem fbad_no {m : List (Nat × Nat)} (hm : ∀ p ∈ m, actOk p) {p : Int × Int} (hp : ¬ okA p) (r : List (Int × Int)) : fbad (m.map toI ++ p :: r) = some m.length := fbad_some (fun k q hk hq => by
    rw [List.getElem?_append_left (by rw [List.length_map]; exact hk)] at hq
    obtain ⟨p, hp, rfl⟩ := List.mem_map.1 (List.mem_of_getElem? hq)
    exact ok_toI (hm p hp)) (by rw [List.getElem?_append_right (by rw [List.length_map]; omega), List.length_map, Nat.sub_self]; rfl) hp
theorem right_ok {m : List (Nat × Nat)} (hm : ∀ p ∈ m, actOk p) (hl : m.length ≤ 1000000) : Pure (C2 X) 13 [dPs m] (fun y => y = .nili) := by
  have := right_pure (X := X) (m.map toI) (by rw [List.length_map]; exact hl)
  rwa [show rightY (m.map toI) = .nili by unfold rightY; rw [fbad_ok hm], ← dPs_eq] at this
theorem dP_at {m : List (Nat × Nat)} {i : Nat} (h : i < m.length) : (m.map dP)[i]? = some (.agg [.int .i64 m[i].1, .int .i64 m[i].2]) := by rw [List.getElem?_map, List.getElem?_eq_getElem h]; rfl
def pl_slp : List (Nat × Plan) := [(14, .leaf [0, 0, 0, 1, 0, 0, 0, 1, 3] [0, 1, 2, 4, 5, 6, 3, 7, 8] [0, 0, 3, 7, 0, 0, 48, 112, 255])]
def G_slp : List FuncId := [10, 11, 12, 13]
theorem cok_slp : codeOk Tryd.prog G_slp pl_slp (Tryd.f3.body.getD .skip) = true := by kernel_rfl
theorem run_slp (vs : Array Value) (w : World) : (callFunc 3 vs).run (C2 X).P w = .ok (.enter 3 vs) w := by kernel_rfl
set_option maxHeartbeats 4000000 in
theorem sparses_pure (s : List UInt8) : Pure (C2 X) 3 [.str (bs s)] (fun y => y = .bool true) := by
  have hz := bs_size s
  have hal := salive_pure (X := X)
  refine pure_of (c2_ok X) (pl := pl_slp) (G := G_slp) Tryd.func3 rfl Tryd.ntmps3 run_slp cok_slp (by simp) ?_
  by_cases hs : 1000 < s.length
  · (conv => whnf)
    (repeat' ((first | refine ord_ok (by (conv => whnf); (repeat' ((first | refine call_eq rfl hal ?_ | refine ify ?_ | refine ifn ?_ | refine i6 ?_ | refine ati ?_ | refine mst ?_ | refine rmd ?_ | refine ibo (fun _ => ?_) (fun _ => ?_)) <;> conv => whnf)); (all_goals (repeat' (first | exact trivial | exact rfl | refine And.intro ?_ ?_)))) ?_ | refine call_eq rfl hal ?_ | refine ify ?_ | refine ifn ?_ | refine i6 ?_ | refine ati ?_ | refine mst ?_ | refine rmd ?_ | refine ibo (fun _ => ?_) (fun _ => ?_)) <;> conv => whnf))
    exact rfl
  obtain ⟨l, ok, hp⟩ := pars_ex s.length s (Nat.le_refl _)
  have h1 := parse_pure (X := X) s (by omega) hp
  have h2 := rparse_pure (X := X) s (by omega) hp
  obtain ⟨hok, htx⟩ := pars_inv hp
  cases ok with
  | false =>
    rw [show parseY l false = .tuple [.nils, dF 14 l.length lineS] from rfl] at h1
    rw [show rparseY l false = .tuple [.nils, .int .i64 l.length] from rfl] at h2
    have hc := Pure.up (X := X) (code_pure 14 l.length lineS)
    have ha := at_pure (X := X) 14 l.length lineS
    (conv => whnf)
    (repeat' ((first | refine ord_ok (by (conv => whnf); (repeat' ((first | refine call_eq rfl hal ?_ | refine call_eq rfl h1 ?_ | refine call_eq rfl h2 ?_ | refine call_eq rfl hc ?_ | refine call_eq rfl ha ?_ | refine ify ?_ | refine ifn ?_ | refine i6 ?_ | refine ati ?_ | refine mst ?_ | refine rmd ?_ | refine ibo (fun _ => ?_) (fun _ => ?_)) <;> conv => whnf)); (all_goals (repeat' (first | exact trivial | exact rfl | refine And.intro ?_ ?_)))) ?_ | refine call_eq rfl hal ?_ | refine call_eq rfl h1 ?_ | refine call_eq rfl h2 ?_ | refine call_eq rfl hc ?_ | refine call_eq rfl ha ?_ | refine ify ?_ | refine ifn ?_ | refine i6 ?_ | refine ati ?_ | refine mst ?_ | refine rmd ?_ | refine ibo (fun _ => ?_) (fun _ => ?_)) <;> conv => whnf))
    exact congrArg Da.bool (decide_eq_true rfl)
  | true =>
    rw [show parseY l true = .tuple [dPs l, .nili] from rfl] at h1
    rw [show rparseY l true = .tuple [dPs l, .int .i64 (-1)] from rfl] at h2
    have hsl := htx rfl
    have hll : l.length ≤ s.length := by rw [hsl]; exact textB_ge l
    have hdl : (l.map dP).length = l.length := List.length_map _
    have ht := text_pure (X := X) l hok (by omega)
    rw [← hsl] at ht
    have hr := right_ok (X := X) hok (by omega)
    (conv => whnf)
    (repeat' ((first | refine ord_ok (by (conv => whnf); (repeat' ((first | refine call_eq rfl hal ?_ | refine call_eq rfl h1 ?_ | refine call_eq rfl h2 ?_ | refine call_eq rfl ht ?_ | refine call_eq rfl hr ?_ | refine ify ?_ | refine ifn ?_ | refine i6 ?_ | refine ati ?_ | refine mst ?_ | refine rmd ?_ | refine ibo (fun _ => ?_) (fun _ => ?_)) <;> conv => whnf)); (all_goals (repeat' (first | exact trivial | exact rfl | refine And.intro ?_ ?_)))) ?_ | refine call_eq rfl hal ?_ | refine call_eq rfl h1 ?_ | refine call_eq rfl h2 ?_ | refine call_eq rfl ht ?_ | refine call_eq rfl hr ?_ | refine ify ?_ | refine ifn ?_ | refine i6 ?_ | refine ati ?_ | refine mst ?_ | refine rmd ?_ | refine ibo (fun _ => ?_) (fun _ => ?_)) <;> conv => whnf))
    refine loop_lo (ι := Nat) (fun i => i ≤ l.length) (fun i => [(7, .d (.int .i64 i)), (5, .d (dPs l)), (3, .d (dPs l))]) (fun _ => []) (fun i => l.length - i) 0 (fun _ => rfl) (Nat.zero_le _) (.refl _ _) ⟨rfl, rfl, rfl, trivial⟩ trivial ?_
    intro i hi
    refine sxCode_sound (c2_ok X) (G := G_slp) (pl := pl_slp) _ _ _ _ (by kernel_rfl) ?_
    by_cases hil : i < l.length
    · have hxd := dP_at hil
      (conv => whnf)
      (repeat' ((first | refine ord_ok (by (conv => whnf); (repeat' ((first | refine at_ls hxd rfl ?_ | refine ify ?_ | refine ifn ?_ | refine i6 ?_ | refine ati ?_ | refine mst ?_ | refine rmd ?_ | refine ibo (fun _ => ?_) (fun _ => ?_)) <;> conv => whnf)); (all_goals (repeat' (first | exact trivial | exact rfl | refine And.intro ?_ ?_)))) ?_ | refine at_ls hxd rfl ?_ | refine ify ?_ | refine ifn ?_ | refine i6 ?_ | refine ati ?_ | refine mst ?_ | refine rmd ?_ | refine ibo (fun _ => ?_) (fun _ => ?_)) <;> conv => whnf))
      exact ⟨i + 1, _, _, by omega, .refl _ _, ⟨rfl, rfl, rfl, trivial⟩, trivial, by omega⟩
    · ((conv => whnf); repeat' ((first | refine odw ?_ | refine ify ?_ | refine ifn ?_ | refine i6 ?_ | refine ati ?_ | refine mst ?_ | refine rmd ?_ | refine ibo (fun _ => ?_) (fun _ => ?_)) <;> conv => whnf))
      exact rfl
def pl_slt : List (Nat × Plan) := [(25, .leaf [0, 0, 0, 1, 0, 0, 0, 1, 3] [0, 1, 2, 4, 5, 6, 3, 7, 8] [0, 0, 3, 7, 0, 0, 48, 112, 255])]
def G_slt : List FuncId := [10, 11, 17, 16]
theorem cok_slt : codeOk Tryd.prog G_slt pl_slt (Tryd.f5.body.getD .skip) = true := by kernel_rfl
theorem run_slt (vs : Array Value) (w : World) : (callFunc 5 vs).run (C2 X).P w = .ok (.enter 5 vs) w := by kernel_rfl
set_option maxHeartbeats 8000000 in
theorem stexts_pure (l : List (Int × Int)) (kind : Int) (hmx : l.length ≤ 8796093022207) : Pure (C2 X) 5 [dAs l, .int .i64 kind] (fun y => y = .bool true) := by
  have hdl : (l.map dA).length = l.length := List.length_map _
  have hal := salive_pure (X := X)
  refine pure_of (c2_ok X) (pl := pl_slt) (G := G_slt) Tryd.func5 rfl Tryd.ntmps5 run_slt cok_slt (by simp) ?_
  by_cases h100 : 100 < l.length
  · (conv => whnf)
    (repeat' ((first | refine ord_ok (by (conv => whnf); (repeat' ((first | refine call_eq rfl hal ?_ | refine ify ?_ | refine ifn ?_ | refine i6 ?_ | refine ati ?_ | refine mst ?_ | refine rmd ?_ | refine ibo (fun _ => ?_) (fun _ => ?_)) <;> conv => whnf)); (all_goals (repeat' (first | exact trivial | exact rfl | refine And.intro ?_ ?_)))) ?_ | refine call_eq rfl hal ?_ | refine ify ?_ | refine ifn ?_ | refine i6 ?_ | refine ati ?_ | refine mst ?_ | refine rmd ?_ | refine ibo (fun _ => ?_) (fun _ => ?_)) <;> conv => whnf))
    exact rfl
  have h1 := aof_pure (X := X) l (by omega)
  have h2 := right_pure (X := X) l (by omega)
  have h3 := rbad_pure (X := X) l (by omega)
  have h4 := count_pure (X := X) l kind (by omega)
  (conv => whnf)
  (repeat' ((first | refine ord_ok (by (conv => whnf); (repeat' ((first | refine call_eq rfl hal ?_ | refine call_eq rfl h1 ?_ | refine call_eq rfl h2 ?_ | refine call_eq rfl h3 ?_ | refine ify ?_ | refine ifn ?_ | refine i6 ?_ | refine ati ?_ | refine mst ?_ | refine rmd ?_ | refine ibo (fun _ => ?_) (fun _ => ?_)) <;> conv => whnf)); (all_goals (repeat' (first | exact trivial | exact rfl | refine And.intro ?_ ?_)))) ?_ | refine call_eq rfl hal ?_ | refine call_eq rfl h1 ?_ | refine call_eq rfl h2 ?_ | refine call_eq rfl h3 ?_ | refine ify ?_ | refine ifn ?_ | refine i6 ?_ | refine ati ?_ | refine mst ?_ | refine rmd ?_ | refine ibo (fun _ => ?_) (fun _ => ?_)) <;> conv => whnf))
  refine loop_lo (ι := Nat) (fun i => i ≤ l.length) (fun i => [(9, .d (.int .i64 i)), (8, .d (.int .i64 (cntK kind (l.take i)))), (7, .d (.int .i64 (badY l))), (6, .d (rightY l)), (5, .d (dAs l)), (1, .d (.int .i64 kind)), (0, .d (dAs l))]) (fun _ => []) (fun i => l.length - i) 0 (fun _ => rfl) (Nat.zero_le _) (.refl _ _) ⟨rfl, rfl, rfl, rfl, rfl, rfl, rfl, trivial⟩ trivial ?_
  intro i hi
  refine sxCode_sound (c2_ok X) (G := G_slt) (pl := pl_slt) _ _ _ _ (by kernel_rfl) ?_
  by_cases hil : i < l.length
  · have hx := List.getElem?_eq_getElem hil
    generalize l[i] = p at hx
    have hxd : (l.map dA)[i]? = some (.agg [.int .i64 p.1, .int .i64 p.2]) := by rw [List.getElem?_map, hx]; rfl
    have hc := cntK_take (k := kind) hx
    have hcl := cntK_le kind (l.take i)
    rw [List.length_take] at hcl
    by_cases hk : p.1 = kind
    · rw [if_pos hk] at hc
      (conv => whnf)
      (repeat' ((first | refine ord_ok (by (conv => whnf); (repeat' ((first | refine at_ls hxd rfl ?_ | refine ify ?_ | refine ifn ?_ | refine i6 ?_ | refine ati ?_ | refine mst ?_ | refine rmd ?_ | refine ibo (fun _ => ?_) (fun _ => ?_)) <;> conv => whnf)); (all_goals (repeat' (first | exact trivial | exact rfl | refine And.intro ?_ ?_)))) ?_ | refine at_ls hxd rfl ?_ | refine ify ?_ | refine ifn ?_ | refine i6 ?_ | refine ati ?_ | refine mst ?_ | refine rmd ?_ | refine ibo (fun _ => ?_) (fun _ => ?_)) <;> conv => whnf))
      refine ⟨i + 1, _, _, by omega, .refl _ _, ⟨rfl, ?_, rfl, rfl, rfl, rfl, rfl, trivial⟩, trivial, by omega⟩
      show Dat.d (.int .i64 _) = Dat.d (.int .i64 _)
      rw [hc]; rfl
    · rw [if_neg hk] at hc
      (conv => whnf)
      (repeat' ((first | refine ord_ok (by (conv => whnf); (repeat' ((first | refine at_ls hxd rfl ?_ | refine ify ?_ | refine ifn ?_ | refine i6 ?_ | refine ati ?_ | refine mst ?_ | refine rmd ?_ | refine ibo (fun _ => ?_) (fun _ => ?_)) <;> conv => whnf)); (all_goals (repeat' (first | exact trivial | exact rfl | refine And.intro ?_ ?_)))) ?_ | refine at_ls hxd rfl ?_ | refine ify ?_ | refine ifn ?_ | refine i6 ?_ | refine ati ?_ | refine mst ?_ | refine rmd ?_ | refine ibo (fun _ => ?_) (fun _ => ?_)) <;> conv => whnf))
      refine ⟨i + 1, _, _, by omega, .refl _ _, ⟨rfl, ?_, rfl, rfl, rfl, rfl, rfl, trivial⟩, trivial, by omega⟩
      show Dat.d (.int .i64 _) = Dat.d (.int .i64 _)
      rw [hc]; rfl
  · have e : l.take i = l := List.take_of_length_le (by omega)
    rw [e]
    rcases first_case l with ⟨m, hm, rfl⟩ | ⟨m, p, r, hm, hp, rfl⟩
    · rw [show badY (m.map toI) = -1 by unfold badY; rw [fbad_ok hm], show rightY (m.map toI) = .nili by unfold rightY; rw [fbad_ok hm]]
      rw [← dPs_eq] at h4 ⊢
      rw [List.length_map] at h100 hi hil hdl
      have ht := text_pure (X := X) m hm (by omega)
      have htl := textB_len m hm
      have hps := parse_pure (X := X) (textB m) (by omega) (pars_all m hm)
      rw [show parseY m true = .tuple [dPs m, .nili] from rfl] at hps
      have hrt := rtext_pure (X := X) m hm (by omega)
      have hdm : (m.map dP).length = m.length := List.length_map _
      (conv => whnf)
      (repeat' ((first | refine ord_ok (by (conv => whnf); (repeat' ((first | refine call_eq rfl h4 ?_ | refine call_eq rfl ht ?_ | refine call_eq rfl hps ?_ | refine call_eq rfl hrt ?_ | refine ify ?_ | refine ifn ?_ | refine i6 ?_ | refine ati ?_ | refine mst ?_ | refine rmd ?_ | refine ibo (fun _ => ?_) (fun _ => ?_)) <;> conv => whnf)); (all_goals (repeat' (first | exact trivial | exact rfl | refine And.intro ?_ ?_)))) ?_ | refine call_eq rfl h4 ?_ | refine call_eq rfl ht ?_ | refine call_eq rfl hps ?_ | refine call_eq rfl hrt ?_ | refine ify ?_ | refine ifn ?_ | refine i6 ?_ | refine ati ?_ | refine mst ?_ | refine rmd ?_ | refine ibo (fun _ => ?_) (fun _ => ?_)) <;> conv => whnf))
      refine loop_lo (ι := Nat) (fun i => i ≤ m.length) (fun i => [(13, .d (.int .i64 i)), (11, .d (dPs m)), (5, .d (dPs m))]) (fun _ => []) (fun i => m.length - i) 0 (fun _ => rfl) (Nat.zero_le _) (.refl _ _) ⟨rfl, rfl, rfl, trivial⟩ trivial ?_
      intro k hk
      refine sxCode_sound (c2_ok X) (G := G_slt) (pl := pl_slt) _ _ _ _ (by kernel_rfl) ?_
      by_cases hkl : k < m.length
      · have hxd := dP_at hkl
        (conv => whnf)
        (repeat' ((first | refine ord_ok (by (conv => whnf); (repeat' ((first | refine at_ls hxd rfl ?_ | refine ify ?_ | refine ifn ?_ | refine i6 ?_ | refine ati ?_ | refine mst ?_ | refine rmd ?_ | refine ibo (fun _ => ?_) (fun _ => ?_)) <;> conv => whnf)); (all_goals (repeat' (first | exact trivial | exact rfl | refine And.intro ?_ ?_)))) ?_ | refine at_ls hxd rfl ?_ | refine ify ?_ | refine ifn ?_ | refine i6 ?_ | refine ati ?_ | refine mst ?_ | refine rmd ?_ | refine ibo (fun _ => ?_) (fun _ => ?_)) <;> conv => whnf))
        exact ⟨k + 1, _, _, by omega, .refl _ _, ⟨rfl, rfl, rfl, trivial⟩, trivial, by omega⟩
      · ((conv => whnf); repeat' ((first | refine odw ?_ | refine ify ?_ | refine ifn ?_ | refine i6 ?_ | refine ati ?_ | refine mst ?_ | refine rmd ?_ | refine ibo (fun _ => ?_) (fun _ => ?_)) <;> conv => whnf))
        exact rfl
    · rw [show badY (m.map toI ++ p :: r) = m.length by unfold badY; rw [fbad_no hm hp], show rightY (m.map toI ++ p :: r) = dF 14 m.length actS by unfold rightY; rw [fbad_no hm hp]]
      have hc := Pure.up (X := X) (code_pure 14 m.length actS)
      have ha := at_pure (X := X) 14 m.length actS
      (conv => whnf)
      (repeat' ((first | refine ord_ok (by (conv => whnf); (repeat' ((first | refine call_eq rfl h4 ?_ | refine call_eq rfl hc ?_ | refine call_eq rfl ha ?_ | refine ify ?_ | refine ifn ?_ | refine i6 ?_ | refine ati ?_ | refine mst ?_ | refine rmd ?_ | refine ibo (fun _ => ?_) (fun _ => ?_)) <;> conv => whnf)); (all_goals (repeat' (first | exact trivial | exact rfl | refine And.intro ?_ ?_)))) ?_ | refine call_eq rfl h4 ?_ | refine call_eq rfl hc ?_ | refine call_eq rfl ha ?_ | refine ify ?_ | refine ifn ?_ | refine i6 ?_ | refine ati ?_ | refine mst ?_ | refine rmd ?_ | refine ibo (fun _ => ?_) (fun _ => ?_)) <;> conv => whnf))
      exact congrArg Da.bool (decide_eq_true rfl)
end Go.Proofs.YtdbafjjmdgdjgaaDoor
