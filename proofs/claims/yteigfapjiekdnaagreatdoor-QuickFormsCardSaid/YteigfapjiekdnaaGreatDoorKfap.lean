/- Merged: Prm Prn. -/
import Derived.Test.YteigfapjiekdnaaGreatDoorKfao
import Derived.Test.YteigfapjiekdnaaGreatDoorKfab
import Derived.Test.YteigfapjiekdnaaGreatDoorKfae
section
/- perm: Right, Put. -/
namespace Go.Proofs.YteigfapjiekdnaaGreatDoor
open Go.Sx Go.RowKit Go.Reg Go.Gr

set_option maxRecDepth 100000
def ordR (p : List Int) : Bool := decide (p.length ≤ 8) && (decide (∀ x ∈ p, 0 ≤ x ∧ x < p.length) && decide p.Nodup)
def pl_pmr : List (Nat × Plan) := []
def G_pmr : List FuncId := []
theorem cok_pmr : codeOk Tryz.prog G_pmr pl_pmr (Tryz.f156.body.getD .skip) = true := by kernel_rfl
theorem run_pmr (vs : Array Value) (w : World) : (callFunc 156 vs).run C1.P w = .ok (.enter 156 vs) w := by kernel_rfl
set_option maxHeartbeats 4000000 in
theorem permright_pure (p : List Int) (hm : p.length ≤ 9000000000000000000) : Pure C1 156 [dIs p] (fun y => y = .bool (ordR p)) := by
  have hdp : (p.map dI).length = p.length := List.length_map _
  refine pure_of c1_ok (pl := pl_pmr) (G := G_pmr) Tryz.func156 rfl Tryz.ntmps156 run_pmr cok_pmr (by simp) ?_
  by_cases h8 : 8 < p.length
  · have : ordR p = false := by unfold ordR; rw [decide_eq_false (by omega)]; rfl
    rw [this]
    ((conv => whnf); repeat' ((first | refine odw ?_ | refine ify ?_ | refine ifn ?_ | refine i6 ?_ | refine ati ?_ | refine mst ?_ | refine rmd ?_ | refine ibo (fun _ => ?_) (fun _ => ?_)) <;> conv => whnf))
    exact rfl
  · ((conv => whnf); repeat' ((first | refine odw ?_ | refine ify ?_ | refine ifn ?_ | refine i6 ?_ | refine ati ?_ | refine mst ?_ | refine rmd ?_ | refine ibo (fun _ => ?_) (fun _ => ?_)) <;> conv => whnf))
    refine loop_lo (ι := Nat) (fun i => i ≤ p.length ∧ (∀ x ∈ p.take i, 0 ≤ x ∧ x < (p.length : Int)) ∧ (p.take i).Nodup) (fun i => [(11, .d (.int .i64 i)), (10, .d (.int .i64 (p.map dI).length)), (9, .d (dIs p)), (3, .d (.int .i64 (maskOf ((p.take i).map Int.toNat) : Nat))), (0, .d (dIs p))]) (fun _ => []) (fun i => p.length - i) 0 (fun _ => rfl) ⟨Nat.zero_le _, by simp, by simp⟩ (.refl _ _) ⟨rfl, rfl, rfl, rfl, rfl, trivial⟩ trivial ?_
    rintro i ⟨hi, hr, hn⟩
    refine sxCode_sound c1_ok (G := G_pmr) (pl := pl_pmr) _ _ _ _ (by kernel_rfl) ?_
    by_cases hil : i < p.length
    · have hx := List.getElem?_eq_getElem hil
      have hxm := List.getElem_mem hil
      generalize p[i] = x at hx hxm
      have hxd : (p.map dI)[i]? = some (.int .i64 x) := by rw [List.getElem?_map, hx]; rfl
      have hno : ¬ (0 ≤ x ∧ x < (p.length : Int)) → ordR p = false := fun h => by
        unfold ordR
        rw [decide_eq_false (p := ∀ x ∈ p, 0 ≤ x ∧ x < (p.length : Int)) (fun hh => h (hh x hxm))]
        simp
      by_cases h0 : x < 0
      · rw [hno (by omega)]
        (conv => whnf)
        (repeat' ((first | refine ord_ok (by (conv => whnf); (repeat' ((first | refine at_da hxd rfl ?_ | refine ify ?_ | refine ifn ?_ | refine i6 ?_ | refine ati ?_ | refine mst ?_ | refine rmd ?_ | refine ibo (fun _ => ?_) (fun _ => ?_)) <;> conv => whnf)); (all_goals (repeat' (first | exact trivial | exact rfl | refine And.intro ?_ ?_)))) ?_ | refine at_da hxd rfl ?_ | refine ify ?_ | refine ifn ?_ | refine i6 ?_ | refine ati ?_ | refine mst ?_ | refine rmd ?_ | refine ibo (fun _ => ?_) (fun _ => ?_)) <;> conv => whnf))
        exact rfl
      by_cases h1 : (p.length : Int) ≤ x
      · rw [hno (by omega)]
        (conv => whnf)
        (repeat' ((first | refine ord_ok (by (conv => whnf); (repeat' ((first | refine at_da hxd rfl ?_ | refine ify ?_ | refine ifn ?_ | refine i6 ?_ | refine ati ?_ | refine mst ?_ | refine rmd ?_ | refine ibo (fun _ => ?_) (fun _ => ?_)) <;> conv => whnf)); (all_goals (repeat' (first | exact trivial | exact rfl | refine And.intro ?_ ?_)))) ?_ | refine at_da hxd rfl ?_ | refine ify ?_ | refine ifn ?_ | refine i6 ?_ | refine ati ?_ | refine mst ?_ | refine rmd ?_ | refine ibo (fun _ => ?_) (fun _ => ?_)) <;> conv => whnf))
        exact rfl
      obtain ⟨k, rfl⟩ := Int.eq_ofNat_of_zero_le (show 0 ≤ x by omega)
      have hm8 : maskOf ((p.take i).map Int.toNat) < 2 ^ 8 := mask_lt _ 8 (fun y hy => by
        obtain ⟨z, hz, rfl⟩ := List.mem_map.1 hy
        have := hr z hz; omega)
      have hbt : (maskOf ((p.take i).map Int.toNat)).testBit k = decide ((k : Int) ∈ p.take i) := by
        rw [mask_bit]
        congr 1
        simp only [List.mem_map, eq_iff_iff]
        constructor
        · rintro ⟨z, hz, hzk⟩
          have := hr z hz
          rw [show (k : Int) = z by omega]; exact hz
        · exact fun h => ⟨k, h, Int.toNat_natCast k⟩
      have hba := bit_of (maskOf ((p.take i).map Int.toNat)) k
      have hsn : maskOf ((p.take (i + 1)).map Int.toNat) = maskOf ((p.take i).map Int.toNat) ||| 2 ^ k := by
        rw [List.take_add_one, hx, Option.toList_some, List.map_append, List.map_cons, List.map_nil, Int.toNat_natCast, mask_snoc]
      have hdv : maskOf ((p.take i).map Int.toNat) / 2 ^ k ≤ maskOf ((p.take i).map Int.toNat) := Nat.div_le_self _ _
      have hpk : (2 : Nat) ^ k ≤ 2 ^ 8 := Nat.pow_le_pow_right (by decide) (by omega)
      generalize hM : maskOf ((p.take i).map Int.toNat) = M at *
      generalize hD : M / 2 ^ k = D at *
      obtain ⟨Z, hZ⟩ : ∃ Z, M ||| 2 ^ k = Z := ⟨_, rfl⟩
      rw [hZ] at hsn
      by_cases hc : (k : Int) ∈ p.take i
      · rw [hbt, decide_eq_true hc, if_pos rfl] at hba
        have hf : ordR p = false := by
          unfold ordR
          rw [decide_eq_false (p := p.Nodup) (fun hh => ?_)]
          · simp
          · obtain ⟨j, hj, hjk⟩ := List.mem_take_iff_getElem.1 hc
            have hj2 : j < p.length := by omega
            have := (List.getElem?_inj hj2 hh).1 ((List.getElem?_eq_getElem hj2).trans ((congrArg some hjk).trans hx.symm))
            omega
        rw [hf]
        (conv => whnf)
        (repeat' ((first | refine ord_ok (by (conv => whnf); (repeat' ((first | refine at_da hxd rfl ?_ | refine op_shrz k M D hD rfl rfl rfl (by omega) rfl rfl ?_ | refine op_and D 1 1 hba rfl rfl rfl (by omega) (by omega) rfl rfl ?_ | refine ify ?_ | refine ifn ?_ | refine i6 ?_ | refine ati ?_ | refine mst ?_ | refine rmd ?_ | refine ibo (fun _ => ?_) (fun _ => ?_)) <;> conv => whnf)); (all_goals (repeat' (first | exact trivial | exact rfl | refine And.intro ?_ ?_)))) ?_ | refine at_da hxd rfl ?_ | refine op_shrz k M D hD rfl rfl rfl (by omega) rfl rfl ?_ | refine op_and D 1 1 hba rfl rfl rfl (by omega) (by omega) rfl rfl ?_ | refine ify ?_ | refine ifn ?_ | refine i6 ?_ | refine ati ?_ | refine mst ?_ | refine rmd ?_ | refine ibo (fun _ => ?_) (fun _ => ?_)) <;> conv => whnf))
        exact rfl
      · rw [hbt, decide_eq_false hc, if_neg (by decide)] at hba
        (conv => whnf)
        (repeat' ((first | refine ord_ok (by (conv => whnf); (repeat' ((first | refine at_da hxd rfl ?_ | refine op_shrz k M D hD rfl rfl rfl (by omega) rfl rfl ?_ | refine op_and D 1 0 hba rfl rfl rfl (by omega) (by omega) rfl rfl ?_ | refine op_bit k rfl rfl rfl (by omega) rfl rfl ?_ | refine op_or M (2 ^ k) Z hZ rfl rfl rfl (by omega) (by omega) rfl rfl ?_ | refine ify ?_ | refine ifn ?_ | refine i6 ?_ | refine ati ?_ | refine mst ?_ | refine rmd ?_ | refine ibo (fun _ => ?_) (fun _ => ?_)) <;> conv => whnf)); (all_goals (repeat' (first | exact trivial | exact rfl | refine And.intro ?_ ?_)))) ?_ | refine at_da hxd rfl ?_ | refine op_shrz k M D hD rfl rfl rfl (by omega) rfl rfl ?_ | refine op_and D 1 0 hba rfl rfl rfl (by omega) (by omega) rfl rfl ?_ | refine op_bit k rfl rfl rfl (by omega) rfl rfl ?_ | refine op_or M (2 ^ k) Z hZ rfl rfl rfl (by omega) (by omega) rfl rfl ?_ | refine ify ?_ | refine ifn ?_ | refine i6 ?_ | refine ati ?_ | refine mst ?_ | refine rmd ?_ | refine ibo (fun _ => ?_) (fun _ => ?_)) <;> conv => whnf))
        refine ⟨i + 1, _, _, ⟨by omega, ?_, ?_⟩, .refl _ _, ⟨rfl, rfl, rfl, by rw [hsn]; rfl, rfl, trivial⟩, trivial, by omega⟩
        · intro y hy
          rw [List.take_add_one, hx, Option.toList_some] at hy
          rcases List.mem_append.1 hy with hy | hy
          · exact hr y hy
          · simp at hy; subst hy; omega
        · rw [List.take_add_one, hx, Option.toList_some]
          exact List.nodup_append.2 ⟨hn, by simp, fun a ha b hb e => by simp at hb; subst hb; subst e; exact hc ha⟩
    · have e : p.take i = p := List.take_of_length_le (by omega)
      rw [e] at hr hn
      have : ordR p = true := by
        unfold ordR
        rw [decide_eq_true (show p.length ≤ 8 by omega), decide_eq_true hr, decide_eq_true hn]; rfl
      rw [this]
      ((conv => whnf); repeat' ((first | refine odw ?_ | refine ify ?_ | refine ifn ?_ | refine i6 ?_ | refine ati ?_ | refine mst ?_ | refine rmd ?_ | refine ibo (fun _ => ?_) (fun _ => ?_)) <;> conv => whnf))
      exact rfl
end Go.Proofs.YteigfapjiekdnaaGreatDoor
end

section
/- perm: wrong, with, Put. -/
namespace Go.Proofs.YteigfapjiekdnaaGreatDoor
open Go.Sx Go.RowKit Go.Reg Go.Gr

set_option maxRecDepth 100000
def ordS : ByteArray := ⟨#[111, 114, 100, 101, 114]⟩
/-- a list put in an order, of the first i things -/
def putL (p l : List Int) (i : Nat) : List Int := ((p.zip l).take i).foldl (fun out z => out.set z.1.toNat z.2) (List.replicate l.length 0)
theorem putL_len (p l : List Int) (i : Nat) : (putL p l i).length = l.length := by
  unfold putL
  suffices h : ∀ (zs : List (Int × Int)) (out : List Int), (zs.foldl (fun out z => out.set z.1.toNat z.2) out).length = out.length by
    rw [h, List.length_replicate]
  intro zs
  induction zs with
  | nil => intro out; rfl
  | cons z zs ih => intro out; rw [List.foldl_cons, ih, List.length_set]
theorem putL_step {p l : List Int} {i : Nat} {x y : Int} (hx : p[i]? = some x) (hy : l[i]? = some y) : putL p l (i + 1) = (putL p l i).set x.toNat y := by
  unfold putL
  have hz : (p.zip l)[i]? = some (x, y) := by rw [List.getElem?_zip_eq_some]; exact ⟨hx, hy⟩
  rw [List.take_add_one, hz, Option.toList_some, List.foldl_append]
  rfl
def withY (p l : List Int) : Da := if ordR p = false then dF 1 0 ordS else if p.length = l.length then .nili else dF 1 1 ordS
def pl_pmg0 : List (Nat × Plan) := []
def G_pmg0 : List FuncId := [63]
theorem cok_pmg0 : codeOk Tryz.prog G_pmg0 pl_pmg0 (Tryz.f76.body.getD .skip) = true := by kernel_rfl
theorem run_pmg0 (vs : Array Value) (w : World) : (callFunc 76 vs).run C1.P w = .ok (.enter 76 vs) w := by kernel_rfl
theorem wrong_pure (a : Int) : Pure C1 76 [.int .i64 a] (fun y => y = dF 1 a ordS) := by
  refine pure_of c1_ok (pl := pl_pmg0) (G := G_pmg0) Tryz.func76 rfl Tryz.ntmps76 run_pmg0 cok_pmg0 (by simp) ?_
  (conv => whnf)
  (repeat' ((first | refine ord_ok (by (conv => whnf); (repeat' ((first | refine call_eq rfl (fnew_pure 1 a ordS) ?_ | refine ify ?_ | refine ifn ?_ | refine i6 ?_ | refine ati ?_ | refine mst ?_ | refine rmd ?_ | refine ibo (fun _ => ?_) (fun _ => ?_)) <;> conv => whnf)); (all_goals (repeat' (first | exact trivial | exact rfl | refine And.intro ?_ ?_)))) ?_ | refine call_eq rfl (fnew_pure 1 a ordS) ?_ | refine ify ?_ | refine ifn ?_ | refine i6 ?_ | refine ati ?_ | refine mst ?_ | refine rmd ?_ | refine ibo (fun _ => ?_) (fun _ => ?_)) <;> conv => whnf))
  exact rfl
def pl_pmw : List (Nat × Plan) := []
def G_pmw : List FuncId := [76, 156]
theorem cok_pmw : codeOk Tryz.prog G_pmw pl_pmw (Tryz.f130.body.getD .skip) = true := by kernel_rfl
theorem run_pmw (vs : Array Value) (w : World) : (callFunc 130 vs).run C1.P w = .ok (.enter 130 vs) w := by kernel_rfl
theorem with_pure (p l : List Int) (hm : p.length ≤ 9000000000000000000) : Pure C1 130 [dIs p, dIs l] (fun y => y = withY p l) := by
  have hdp : (p.map dI).length = p.length := List.length_map _
  have hdl : (l.map dI).length = l.length := List.length_map _
  have hr := permright_pure p hm
  unfold withY
  refine pure_of c1_ok (pl := pl_pmw) (G := G_pmw) Tryz.func130 rfl Tryz.ntmps130 run_pmw cok_pmw (by simp) ?_
  cases h : ordR p with
  | false =>
    rw [h] at hr
    rw [if_pos rfl]
    (conv => whnf)
    (repeat' ((first | refine ord_ok (by (conv => whnf); (repeat' ((first | refine call_eq rfl hr ?_ | refine call_eq rfl (wrong_pure 0) ?_ | refine ify ?_ | refine ifn ?_ | refine i6 ?_ | refine ati ?_ | refine mst ?_ | refine rmd ?_ | refine ibo (fun _ => ?_) (fun _ => ?_)) <;> conv => whnf)); (all_goals (repeat' (first | exact trivial | exact rfl | refine And.intro ?_ ?_)))) ?_ | refine call_eq rfl hr ?_ | refine call_eq rfl (wrong_pure 0) ?_ | refine ify ?_ | refine ifn ?_ | refine i6 ?_ | refine ati ?_ | refine mst ?_ | refine rmd ?_ | refine ibo (fun _ => ?_) (fun _ => ?_)) <;> conv => whnf))
    exact rfl
  | true =>
    rw [h] at hr
    rw [if_neg (by decide)]
    by_cases hl : p.length = l.length
    · rw [if_pos hl]
      (conv => whnf)
      (repeat' ((first | refine ord_ok (by (conv => whnf); (repeat' ((first | refine call_eq rfl hr ?_ | refine ify ?_ | refine ifn ?_ | refine i6 ?_ | refine ati ?_ | refine mst ?_ | refine rmd ?_ | refine ibo (fun _ => ?_) (fun _ => ?_)) <;> conv => whnf)); (all_goals (repeat' (first | exact trivial | exact rfl | refine And.intro ?_ ?_)))) ?_ | refine call_eq rfl hr ?_ | refine ify ?_ | refine ifn ?_ | refine i6 ?_ | refine ati ?_ | refine mst ?_ | refine rmd ?_ | refine ibo (fun _ => ?_) (fun _ => ?_)) <;> conv => whnf))
      exact rfl
    · rw [if_neg hl]
      (conv => whnf)
      (repeat' ((first | refine ord_ok (by (conv => whnf); (repeat' ((first | refine call_eq rfl hr ?_ | refine call_eq rfl (wrong_pure 1) ?_ | refine ify ?_ | refine ifn ?_ | refine i6 ?_ | refine ati ?_ | refine mst ?_ | refine rmd ?_ | refine ibo (fun _ => ?_) (fun _ => ?_)) <;> conv => whnf)); (all_goals (repeat' (first | exact trivial | exact rfl | refine And.intro ?_ ?_)))) ?_ | refine call_eq rfl hr ?_ | refine call_eq rfl (wrong_pure 1) ?_ | refine ify ?_ | refine ifn ?_ | refine i6 ?_ | refine ati ?_ | refine mst ?_ | refine rmd ?_ | refine ibo (fun _ => ?_) (fun _ => ?_)) <;> conv => whnf))
      exact rfl
def putY (p l : List Int) : Da := if ordR p = false then .tuple [.nils, dF 1 0 ordS] else if p.length = l.length then .tuple [dIs (putL p l p.length), .nili] else .tuple [.nils, dF 1 1 ordS]
def pl_pmp : List (Nat × Plan) := []
def G_pmp : List FuncId := [130]
theorem cok_pmp : codeOk Tryz.prog G_pmp pl_pmp (Tryz.f79.body.getD .skip) = true := by kernel_rfl
theorem run_pmp (vs : Array Value) (w : World) : (callFunc 79 vs).run C1.P w = .ok (.enter 79 vs) w := by kernel_rfl
set_option maxHeartbeats 4000000 in
theorem permput_pure (p l : List Int) (hm : p.length ≤ 9000000000000000000) : Pure C1 79 [dIs p, dIs l] (fun y => y = putY p l) := by
  have hdp : (p.map dI).length = p.length := List.length_map _
  have hdl : (l.map dI).length = l.length := List.length_map _
  have hw := with_pure p l hm
  unfold putY
  unfold withY at hw
  refine pure_of c1_ok (pl := pl_pmp) (G := G_pmp) Tryz.func79 rfl Tryz.ntmps79 run_pmp cok_pmp (by simp) ?_
  cases h : ordR p with
  | false =>
    rw [h, if_pos rfl] at hw
    rw [if_pos rfl]
    (conv => whnf)
    (repeat' ((first | refine ord_ok (by (conv => whnf); (repeat' ((first | refine call_eq rfl hw ?_ | refine ify ?_ | refine ifn ?_ | refine i6 ?_ | refine ati ?_ | refine mst ?_ | refine rmd ?_ | refine ibo (fun _ => ?_) (fun _ => ?_)) <;> conv => whnf)); (all_goals (repeat' (first | exact trivial | exact rfl | refine And.intro ?_ ?_)))) ?_ | refine call_eq rfl hw ?_ | refine ify ?_ | refine ifn ?_ | refine i6 ?_ | refine ati ?_ | refine mst ?_ | refine rmd ?_ | refine ibo (fun _ => ?_) (fun _ => ?_)) <;> conv => whnf))
    exact rfl
  | true =>
    rw [h, if_neg (by decide)] at hw
    rw [if_neg (by decide)]
    by_cases hl : p.length = l.length
    · rw [if_pos hl] at hw ⊢
      have h2 := h
      unfold ordR at h2
      simp only [Bool.and_eq_true, decide_eq_true_eq] at h2
      obtain ⟨h8, hr, hn⟩ := h2
      (conv => whnf)
      (repeat' ((first | refine ord_ok (by (conv => whnf); (repeat' ((first | refine call_eq rfl hw ?_ | refine mk_ok l.length (by omega) (by omega) (by omega) ?_ | refine ify ?_ | refine ifn ?_ | refine i6 ?_ | refine ati ?_ | refine mst ?_ | refine rmd ?_ | refine ibo (fun _ => ?_) (fun _ => ?_)) <;> conv => whnf)); (all_goals (repeat' (first | exact trivial | exact rfl | refine And.intro ?_ ?_)))) ?_ | refine call_eq rfl hw ?_ | refine mk_ok l.length (by omega) (by omega) (by omega) ?_ | refine ify ?_ | refine ifn ?_ | refine i6 ?_ | refine ati ?_ | refine mst ?_ | refine rmd ?_ | refine ibo (fun _ => ?_) (fun _ => ?_)) <;> conv => whnf))
      refine loop_lo (ι := Nat) (fun i => i ≤ p.length) (fun i => [(21, .d (.int .i64 i)), (20, .d (.int .i64 (p.map dI).length)), (19, .d (dIs p)), (7, .own 18), (1, .d (dIs l))]) (fun i => [(18, .slice 3 1 ((putL p l i).map dI))]) (fun i => p.length - i) 0 (fun _ => rfl) (Nat.zero_le _) (.refl _ _) ⟨rfl, rfl, rfl, rfl, rfl, trivial⟩ ⟨slice_is (by simp [putL, dI]), trivial⟩ ?_
      intro i hi
      refine sxCode_sound c1_ok (G := G_pmp) (pl := pl_pmp) _ _ _ _ (by kernel_rfl) ?_
      by_cases hil : i < p.length
      · have hx := List.getElem?_eq_getElem hil
        have hxm := hr _ (List.getElem_mem hil)
        generalize p[i] = x at hx hxm
        have hy := List.getElem?_eq_getElem (l := l) (i := i) (by omega)
        generalize l[i]'(by omega) = y at hy
        obtain ⟨k, rfl⟩ := Int.eq_ofNat_of_zero_le hxm.1
        have hxd : (p.map dI)[i]? = some (.int .i64 k) := by rw [List.getElem?_map, hx]; rfl
        have hyd : (l.map dI)[i]? = some (.int .i64 y) := by rw [List.getElem?_map, hy]; rfl
        have hpl : ((putL p l i).map dI).length = l.length := by rw [List.length_map, putL_len]
        have hst := putL_step hx hy
        have hk : k < (putL p l i).length := by rw [putL_len]; omega
        obtain ⟨u, hu⟩ : ∃ u, (putL p l i)[k]? = some u := ⟨_, List.getElem?_eq_getElem hk⟩
        have hud : ((putL p l i).map dI)[k]? = some (.int .i64 u) := by rw [List.getElem?_map, hu]; rfl
        (conv => whnf)
        (repeat' ((first | refine ord_ok (by (conv => whnf); (repeat' ((first | refine at_da hxd rfl ?_ | refine at_da hyd rfl ?_ | refine el_at (i := k) rfl (by omega) ?_ | refine el_is hud ?_ | refine ify ?_ | refine ifn ?_ | refine i6 ?_ | refine ati ?_ | refine mst ?_ | refine rmd ?_ | refine ibo (fun _ => ?_) (fun _ => ?_)) <;> conv => whnf)); (all_goals (repeat' (first | exact trivial | exact rfl | refine And.intro ?_ ?_)))) ?_ | refine at_da hxd rfl ?_ | refine at_da hyd rfl ?_ | refine el_at (i := k) rfl (by omega) ?_ | refine el_is hud ?_ | refine ify ?_ | refine ifn ?_ | refine i6 ?_ | refine ati ?_ | refine mst ?_ | refine rmd ?_ | refine ibo (fun _ => ?_) (fun _ => ?_)) <;> conv => whnf))
        refine ⟨i + 1, _, _, by omega, .refl _ _, ⟨rfl, rfl, rfl, rfl, rfl, trivial⟩, ⟨slice_is ?_, trivial⟩, by omega⟩
        rw [hst, List.map_set]
        simp [dI]
      · have e : i = p.length := by omega
        subst e
        ((conv => whnf); repeat' ((first | refine odw ?_ | refine ify ?_ | refine ifn ?_ | refine i6 ?_ | refine ati ?_ | refine mst ?_ | refine rmd ?_ | refine ibo (fun _ => ?_) (fun _ => ?_)) <;> conv => whnf))
        exact rfl
    · rw [if_neg hl] at hw ⊢
      (conv => whnf)
      (repeat' ((first | refine ord_ok (by (conv => whnf); (repeat' ((first | refine call_eq rfl hw ?_ | refine ify ?_ | refine ifn ?_ | refine i6 ?_ | refine ati ?_ | refine mst ?_ | refine rmd ?_ | refine ibo (fun _ => ?_) (fun _ => ?_)) <;> conv => whnf)); (all_goals (repeat' (first | exact trivial | exact rfl | refine And.intro ?_ ?_)))) ?_ | refine call_eq rfl hw ?_ | refine ify ?_ | refine ifn ?_ | refine i6 ?_ | refine ati ?_ | refine mst ?_ | refine rmd ?_ | refine ibo (fun _ => ?_) (fun _ => ?_)) <;> conv => whnf))
      exact rfl
end Go.Proofs.YteigfapjiekdnaaGreatDoor
end
