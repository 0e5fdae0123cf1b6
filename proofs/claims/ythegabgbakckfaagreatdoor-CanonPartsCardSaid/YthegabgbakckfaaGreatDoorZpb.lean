/- Merged: Pso Prm Prn Pin Ptu Ptv. -/
import Derived.Test.YthegabgbakckfaaGreatDoorGre
import Derived.Test.YthegabgbakckfaaGreatDoorZpa
import Derived.Test.YthegabgbakckfaaGreatDoorBit
import Derived.Test.YthegabgbakckfaaGreatDoorGrc
import Derived.Test.YthegabgbakckfaaGreatDoorFal
import Derived.Test.YthegabgbakckfaaGreatDoorGra
section
/- Patterns: edges put in order in their place by slices.SortFunc with pat.order (as Gre, with graph.order). -/
namespace Go.Proofs.YthegabgbakckfaaGreatDoor
open Go.Sx Go.RowKit Go.Reg Go.Gr

open Go.Sort Go.Proofs in
set_option maxRecDepth 100000 in
set_option maxHeartbeats 1000000 in
theorem paorder_ok (x y : Edg) (W : World) : Calls Tryz.prog 76 #[valE x, valE y] W fun e w' => e = .returned (.int .i64 (cmpE x y)) ∧ ∃ q os', w' = grow (W.drewN q) os' := by
  unfold valE
  go_enter Tryz.func76, Tryz.ntmps76
  go_wp2_with fail
  refine wp_region_t [78] [0, 1, 0, 1, 2, 0, 1, 0, 1, 2, 6, 3, 0] [0, 2, 5, 7, 1, 3, 6, 8, 4, 9, 10, 11, 12] [0, 1, 0, 4, 15, 0, 32, 0, 128, 511, 1023, 2047, 4095] (by kernel_rfl) (by kernel_rfl) ?_
  go_wp2_with (first | (refine wpT_pure rfl rfl rfl rfl (fun _ _ => ?_)) | (refine wpT_look rfl rfl rfl (fun _ _ => ?_)))
  refine wpT_call rfl rfl rfl (fun K1 hK1 => ?_)
  go_wp2_with (go_at_call 78; refine (compare_ok _ _ _).mono ?_; rintro e w' ⟨rfl, rfl⟩)
  refine hK1 _ _ (Ext.refl _) ?_
  go_wp2_with (first | (refine wpT_pure rfl rfl rfl rfl (fun _ _ => ?_)) | (refine wpT_look rfl rfl rfl (fun _ _ => ?_)))
  refine wpT_call rfl rfl rfl (fun K2 hK2 => ?_)
  go_wp2_with (go_at_call 78; refine (compare_ok _ _ _).mono ?_; rintro e w' ⟨rfl, rfl⟩)
  refine hK2 _ _ (Ext.refl _) ?_
  go_wp2_with (first | (refine wpT_pure rfl rfl rfl rfl (fun _ _ => ?_)) | (refine wpT_look rfl rfl rfl (fun _ _ => ?_)))
  refine wpT_one rfl rfl rfl (fun K3 hK3 => ?_)
  go_wp2_with fail
  refine (or_ok _ _ _ _ (cell_new _ _ _ (by simp) rfl) (cell_new _ _ _ (by simp) rfl)).mono ?_
  rintro e w' ⟨rfl, rfl⟩
  refine hK3 _ _ ?_
  go_wp2_with (first | (refine wpT_pure rfl rfl rfl rfl (fun _ _ => ?_)) | (refine wpT_look rfl rfl rfl (fun _ _ => ?_)) | refine wpT_nil ?_)
  go_ret
  have e : orI (cmpI x.a y.a) (cmpI x.b y.b) = cmpE x y := by
    unfold orI cmpE
    by_cases h : cmpI x.a y.a = 0 <;> simp [h]
  exact ⟨by rw [← e]; rfl, 1, _, by rw [alloc_eq_grow, alloc_eq_grow, alloc_eq_grow, grow_grow, grow_grow]; rfl⟩

open Go.Sort in
theorem pasort_ok (v : Value) (l : List Edg) (w : World) (h : Sl 77 2 encE w v l) (hl : l.length ≤ 4294967296) :
    Calls Tryz.prog 75 #[v, .func (.func 76) #[] #[]] w fun e w' => e = .returned (.tuple #[]) ∧ ∃ out, Sl 77 2 encE w' v out ∧ out.Perm l ∧
      out.Pairwise (fun a b => ¬ cmpE b a < 0) ∧ Tch v.ownBlock.toList w w' := by
  rcases h.shape with ⟨rfl, rfl⟩ | ⟨g, cap, rfl, hc⟩
  · refine (AnyF.slices_SortFunc_none Tryz.sortE none 0 _ w).mono ?_
    rintro e w' ⟨rfl, rfl⟩
    exact ⟨rfl, [], h, List.Perm.refl _, List.Pairwise.nil, Tch.refl _ _⟩
  · refine (AnyQ.slices_SortFunc Tryz.sortE 2 Tryz.isAgg77 Tryz.sizeOf77 encE (fun _ => rfl) encE_one cmpE cmpE_swo 76 #[] g 0 cap l.toArray w
      (enters_of Tryz.func76 (by kernel_rfl) rfl) (fun m os dk hs x y => paorder_ok x y _) (h.holdsK encE_len (by decide)) (h.lt rfl) (by simp; omega)).mono ?_
    rintro e w' ⟨rfl, d, n, os, hp, hs, rfl⟩
    obtain ⟨hp1, hp2, hp3⟩ := hp
    have hd : d.size = l.length := by simpa using hp1
    obtain ⟨hS, hT⟩ := h.sorted encE_len (by decide) d hd n os
    refine ⟨rfl, d.toList, hS, ?_, ?_, hT⟩
    · have e1 : d.extract 0 l.toArray.size = d := by rw [← hp1]; exact Array.extract_size
      have e2 : l.toArray.extract 0 l.toArray.size = l.toArray := Array.extract_size
      rw [e1, e2] at hp3
      exact hp3
    · rw [List.pairwise_iff_getElem]
      intro i j hi hj hij
      have hj' : j < l.length := by rw [← hd]; simpa using hj
      have hi' : i < l.length := by omega
      have := hs i j (Nat.zero_le _) hij (by simpa using hj')
      rw [getElem!_pos d j (by omega), getElem!_pos d i (by omega)] at this
      simpa [ltOf] using this
theorem pasort_tsl (l : List Edg) (hl : l.length ≤ 4294967296) : TurnSl C1 75 77 2 (l.map dE) [.func (.func 76) [] []] (fun _ ds => ∃ out : List Edg, ds = out.map dE ∧ out.Perm l ∧ out.Pairwise (fun a b => ¬ cmpE b a < 0)) := by
  intro O w v css us hs hb hO hr hk hg hus
  obtain ⟨u, us', rfl, h1, h2⟩ := reps_inv hus
  obtain rfl := reps_inv0 h2
  obtain ⟨cs, r, rfl⟩ := h1
  simp only [RepC, RepCss] at r
  obtain ⟨_, _, rfl, rfl, rfl⟩ := r
  obtain rfl := edges_cs hr
  refine ⟨by kernel_rfl, (pasort_ok v l w (edges_sl.1 hs) hl).mono ?_⟩
  rintro e w' ⟨rfl, out, hs', hp, ho, ht⟩
  refine ⟨.tuple #[], .tuple [], _, out.map encE, rfl, ⟨out, rfl, hp, ho⟩, edges_sl.2 hs', edges_rep _ _ _, ?_, ⟨[.tuple #[]], by simp only [RepC, RepCss]; exact ⟨[], rfl, rfl⟩, rfl⟩, ht⟩
  intro x hx
  obtain ⟨e, _, rfl⟩ := List.mem_map.1 hx
  exact ⟨rfl, encE_one e⟩
end Go.Proofs.YthegabgbakckfaaGreatDoor
end

section
/- perm: Right, Put. -/
namespace Go.Proofs.YthegabgbakckfaaGreatDoor
open Go.Sx Go.RowKit Go.Reg Go.Gr

set_option maxRecDepth 100000
def ordR (p : List Int) : Bool := decide (p.length ≤ 8) && (decide (∀ x ∈ p, 0 ≤ x ∧ x < p.length) && decide p.Nodup)
def pl_pmr : List (Nat × Plan) := []
def G_pmr : List FuncId := []
theorem cok_pmr : codeOk Tryz.prog G_pmr pl_pmr (Tryz.f106.body.getD .skip) = true := by kernel_rfl
theorem run_pmr (vs : Array Value) (w : World) : (callFunc 106 vs).run C1.P w = .ok (.enter 106 vs) w := by kernel_rfl
set_option maxHeartbeats 4000000 in
theorem permright_pure (p : List Int) (hm : p.length ≤ 9000000000000000000) : Pure C1 106 [dIs p] (fun y => y = .bool (ordR p)) := by
  have hdp : (p.map dI).length = p.length := List.length_map _
  refine pure_of c1_ok (pl := pl_pmr) (G := G_pmr) Tryz.func106 rfl Tryz.ntmps106 run_pmr cok_pmr (by simp) ?_
  by_cases h8 : 8 < p.length
  · have : ordR p = false := by unfold ordR; rw [decide_eq_false (by omega)]; rfl
    rw [this]
    ((conv => whnf); repeat' ((first | refine odw ?_ | refine ify ?_ | refine ifn ?_ | refine i6 ?_ | refine ati ?_ | refine mst ?_ | refine rmd ?_ | refine ibo (fun _ => ?_) (fun _ => ?_)) <;> conv => whnf))
    exact rfl
  · ((conv => whnf); repeat' ((first | refine odw ?_ | refine ify ?_ | refine ifn ?_ | refine i6 ?_ | refine ati ?_ | refine mst ?_ | refine rmd ?_ | refine ibo (fun _ => ?_) (fun _ => ?_)) <;> conv => whnf))
    refine loop_lo (ι := Nat) (fun i => i ≤ p.length ∧ (∀ x ∈ p.take i, 0 ≤ x ∧ x < (p.length : Int)) ∧ (p.take i).Nodup) (fun i => [(11, .d (.int .i64 i)), (10, .d (.int .i64 (p.map dI).length)), (9, .d (dIs p)), (3, .d (.int .i64 (maskOf ((p.take i).map Int.toNat) : Nat))), (0, .d (dIs p))]) (fun _ => []) (fun i => p.length - i) 0 (fun _ => rfl) ⟨Nat.zero_le _, by simp, by simp⟩ (.refl _ _) ⟨rfl, rfl, rfl, rfl, rfl, trivial⟩ trivial ?_
    rintro i ⟨hi, hr, hn⟩
    refine sxCode_sound c1_ok (G := G_pmr) (pl := pl_pmr) _ _ _ _ (by kernel_rfl) ?_
    by_cases hil : i < p.length
    · have hx := List.getElem?_eq_getElem hil
      have hxm := List.getElem_mem hil
      generalize p[i] = x at hx hxm
      have hxd : (p.map dI)[i]? = some (.int .i64 x) := by rw [List.getElem?_map, hx]; rfl
      have hno : ¬ (0 ≤ x ∧ x < (p.length : Int)) → ordR p = false := fun h => by
        unfold ordR
        rw [decide_eq_false (p := ∀ x ∈ p, 0 ≤ x ∧ x < (p.length : Int)) (fun hh => h (hh x hxm))]
        simp
      by_cases h0 : x < 0
      · rw [hno (by omega)]
        (conv => whnf)
        (repeat' ((first | refine ord_ok (by (conv => whnf); (repeat' ((first | refine at_da hxd rfl ?_ | refine ify ?_ | refine ifn ?_ | refine i6 ?_ | refine ati ?_ | refine mst ?_ | refine rmd ?_ | refine ibo (fun _ => ?_) (fun _ => ?_)) <;> conv => whnf)); (all_goals (repeat' (first | exact trivial | exact rfl | refine And.intro ?_ ?_)))) ?_ | refine at_da hxd rfl ?_ | refine ify ?_ | refine ifn ?_ | refine i6 ?_ | refine ati ?_ | refine mst ?_ | refine rmd ?_ | refine ibo (fun _ => ?_) (fun _ => ?_)) <;> conv => whnf))
        exact rfl
      by_cases h1 : (p.length : Int) ≤ x
      · rw [hno (by omega)]
        (conv => whnf)
        (repeat' ((first | refine ord_ok (by (conv => whnf); (repeat' ((first | refine at_da hxd rfl ?_ | refine ify ?_ | refine ifn ?_ | refine i6 ?_ | refine ati ?_ | refine mst ?_ | refine rmd ?_ | refine ibo (fun _ => ?_) (fun _ => ?_)) <;> conv => whnf)); (all_goals (repeat' (first | exact trivial | exact rfl | refine And.intro ?_ ?_)))) ?_ | refine at_da hxd rfl ?_ | refine ify ?_ | refine ifn ?_ | refine i6 ?_ | refine ati ?_ | refine mst ?_ | refine rmd ?_ | refine ibo (fun _ => ?_) (fun _ => ?_)) <;> conv => whnf))
        exact rfl
      obtain ⟨k, rfl⟩ := Int.eq_ofNat_of_zero_le (show 0 ≤ x by omega)
      have hm8 : maskOf ((p.take i).map Int.toNat) < 2 ^ 8 := mask_lt _ 8 (fun y hy => by
        obtain ⟨z, hz, rfl⟩ := List.mem_map.1 hy
        have := hr z hz; omega)
      have hbt : (maskOf ((p.take i).map Int.toNat)).testBit k = decide ((k : Int) ∈ p.take i) := by
        rw [mask_bit]
        congr 1
        simp only [List.mem_map, eq_iff_iff]
        constructor
        · rintro ⟨z, hz, hzk⟩
          have := hr z hz
          rw [show (k : Int) = z by omega]; exact hz
        · exact fun h => ⟨k, h, Int.toNat_natCast k⟩
      have hba := bit_of (maskOf ((p.take i).map Int.toNat)) k
      have hsn : maskOf ((p.take (i + 1)).map Int.toNat) = maskOf ((p.take i).map Int.toNat) ||| 2 ^ k := by
        rw [List.take_add_one, hx, Option.toList_some, List.map_append, List.map_cons, List.map_nil, Int.toNat_natCast, mask_snoc]
      have hdv : maskOf ((p.take i).map Int.toNat) / 2 ^ k ≤ maskOf ((p.take i).map Int.toNat) := Nat.div_le_self _ _
      have hpk : (2 : Nat) ^ k ≤ 2 ^ 8 := Nat.pow_le_pow_right (by decide) (by omega)
      generalize hM : maskOf ((p.take i).map Int.toNat) = M at *
      generalize hD : M / 2 ^ k = D at *
      obtain ⟨Z, hZ⟩ : ∃ Z, M ||| 2 ^ k = Z := ⟨_, rfl⟩
      rw [hZ] at hsn
      by_cases hc : (k : Int) ∈ p.take i
      · rw [hbt, decide_eq_true hc, if_pos rfl] at hba
        have hf : ordR p = false := by
          unfold ordR
          rw [decide_eq_false (p := p.Nodup) (fun hh => ?_)]
          · simp
          · obtain ⟨j, hj, hjk⟩ := List.mem_take_iff_getElem.1 hc
            have hj2 : j < p.length := by omega
            have := (List.getElem?_inj hj2 hh).1 ((List.getElem?_eq_getElem hj2).trans ((congrArg some hjk).trans hx.symm))
            omega
        rw [hf]
        (conv => whnf)
        (repeat' ((first | refine ord_ok (by (conv => whnf); (repeat' ((first | refine at_da hxd rfl ?_ | refine op_shrz k M D hD rfl rfl rfl (by omega) rfl rfl ?_ | refine op_and D 1 1 hba rfl rfl rfl (by omega) (by omega) rfl rfl ?_ | refine ify ?_ | refine ifn ?_ | refine i6 ?_ | refine ati ?_ | refine mst ?_ | refine rmd ?_ | refine ibo (fun _ => ?_) (fun _ => ?_)) <;> conv => whnf)); (all_goals (repeat' (first | exact trivial | exact rfl | refine And.intro ?_ ?_)))) ?_ | refine at_da hxd rfl ?_ | refine op_shrz k M D hD rfl rfl rfl (by omega) rfl rfl ?_ | refine op_and D 1 1 hba rfl rfl rfl (by omega) (by omega) rfl rfl ?_ | refine ify ?_ | refine ifn ?_ | refine i6 ?_ | refine ati ?_ | refine mst ?_ | refine rmd ?_ | refine ibo (fun _ => ?_) (fun _ => ?_)) <;> conv => whnf))
        exact rfl
      · rw [hbt, decide_eq_false hc, if_neg (by decide)] at hba
        (conv => whnf)
        (repeat' ((first | refine ord_ok (by (conv => whnf); (repeat' ((first | refine at_da hxd rfl ?_ | refine op_shrz k M D hD rfl rfl rfl (by omega) rfl rfl ?_ | refine op_and D 1 0 hba rfl rfl rfl (by omega) (by omega) rfl rfl ?_ | refine op_bit k rfl rfl rfl (by omega) rfl rfl ?_ | refine op_or M (2 ^ k) Z hZ rfl rfl rfl (by omega) (by omega) rfl rfl ?_ | refine ify ?_ | refine ifn ?_ | refine i6 ?_ | refine ati ?_ | refine mst ?_ | refine rmd ?_ | refine ibo (fun _ => ?_) (fun _ => ?_)) <;> conv => whnf)); (all_goals (repeat' (first | exact trivial | exact rfl | refine And.intro ?_ ?_)))) ?_ | refine at_da hxd rfl ?_ | refine op_shrz k M D hD rfl rfl rfl (by omega) rfl rfl ?_ | refine op_and D 1 0 hba rfl rfl rfl (by omega) (by omega) rfl rfl ?_ | refine op_bit k rfl rfl rfl (by omega) rfl rfl ?_ | refine op_or M (2 ^ k) Z hZ rfl rfl rfl (by omega) (by omega) rfl rfl ?_ | refine ify ?_ | refine ifn ?_ | refine i6 ?_ | refine ati ?_ | refine mst ?_ | refine rmd ?_ | refine ibo (fun _ => ?_) (fun _ => ?_)) <;> conv => whnf))
        refine ⟨i + 1, _, _, ⟨by omega, ?_, ?_⟩, .refl _ _, ⟨rfl, rfl, rfl, by rw [hsn]; rfl, rfl, trivial⟩, trivial, by omega⟩
        · intro y hy
          rw [List.take_add_one, hx, Option.toList_some] at hy
          rcases List.mem_append.1 hy with hy | hy
          · exact hr y hy
          · simp at hy; subst hy; omega
        · rw [List.take_add_one, hx, Option.toList_some]
          exact List.nodup_append.2 ⟨hn, by simp, fun a ha b hb e => by simp at hb; subst hb; subst e; exact hc ha⟩
    · have e : p.take i = p := List.take_of_length_le (by omega)
      rw [e] at hr hn
      have : ordR p = true := by
        unfold ordR
        rw [decide_eq_true (show p.length ≤ 8 by omega), decide_eq_true hr, decide_eq_true hn]; rfl
      rw [this]
      ((conv => whnf); repeat' ((first | refine odw ?_ | refine ify ?_ | refine ifn ?_ | refine i6 ?_ | refine ati ?_ | refine mst ?_ | refine rmd ?_ | refine ibo (fun _ => ?_) (fun _ => ?_)) <;> conv => whnf))
      exact rfl
end Go.Proofs.YthegabgbakckfaaGreatDoor
end

section
/- perm: wrong, with, Put. -/
namespace Go.Proofs.YthegabgbakckfaaGreatDoor
open Go.Sx Go.RowKit Go.Reg Go.Gr

set_option maxRecDepth 100000
def ordS : ByteArray := ⟨#[111, 114, 100, 101, 114]⟩
/-- a list put in an order, of the first i things -/
def putL (p l : List Int) (i : Nat) : List Int := ((p.zip l).take i).foldl (fun out z => out.set z.1.toNat z.2) (List.replicate l.length 0)
theorem putL_len (p l : List Int) (i : Nat) : (putL p l i).length = l.length := by
  unfold putL
  suffices h : ∀ (zs : List (Int × Int)) (out : List Int), (zs.foldl (fun out z => out.set z.1.toNat z.2) out).length = out.length by
    rw [h, List.length_replicate]
  intro zs
  induction zs with
  | nil => intro out; rfl
  | cons z zs ih => intro out; rw [List.foldl_cons, ih, List.length_set]
theorem putL_step {p l : List Int} {i : Nat} {x y : Int} (hx : p[i]? = some x) (hy : l[i]? = some y) : putL p l (i + 1) = (putL p l i).set x.toNat y := by
  unfold putL
  have hz : (p.zip l)[i]? = some (x, y) := by rw [List.getElem?_zip_eq_some]; exact ⟨hx, hy⟩
  rw [List.take_add_one, hz, Option.toList_some, List.foldl_append]
  rfl
def withY (p l : List Int) : Da := if ordR p = false then dF 1 0 ordS else if p.length = l.length then .nili else dF 1 1 ordS
def pl_pmg0 : List (Nat × Plan) := []
def G_pmg0 : List FuncId := [81]
theorem cok_pmg0 : codeOk Tryz.prog G_pmg0 pl_pmg0 (Tryz.f70.body.getD .skip) = true := by kernel_rfl
theorem run_pmg0 (vs : Array Value) (w : World) : (callFunc 70 vs).run C1.P w = .ok (.enter 70 vs) w := by kernel_rfl
theorem wrong_pure (a : Int) : Pure C1 70 [.int .i64 a] (fun y => y = dF 1 a ordS) := by
  refine pure_of c1_ok (pl := pl_pmg0) (G := G_pmg0) Tryz.func70 rfl Tryz.ntmps70 run_pmg0 cok_pmg0 (by simp) ?_
  (conv => whnf)
  (repeat' ((first | refine ord_ok (by (conv => whnf); (repeat' ((first | refine call_eq rfl (fnew_pure 1 a ordS) ?_ | refine ify ?_ | refine ifn ?_ | refine i6 ?_ | refine ati ?_ | refine mst ?_ | refine rmd ?_ | refine ibo (fun _ => ?_) (fun _ => ?_)) <;> conv => whnf)); (all_goals (repeat' (first | exact trivial | exact rfl | refine And.intro ?_ ?_)))) ?_ | refine call_eq rfl (fnew_pure 1 a ordS) ?_ | refine ify ?_ | refine ifn ?_ | refine i6 ?_ | refine ati ?_ | refine mst ?_ | refine rmd ?_ | refine ibo (fun _ => ?_) (fun _ => ?_)) <;> conv => whnf))
  exact rfl
def pl_pmw : List (Nat × Plan) := []
def G_pmw : List FuncId := [70, 106]
theorem cok_pmw : codeOk Tryz.prog G_pmw pl_pmw (Tryz.f133.body.getD .skip) = true := by kernel_rfl
theorem run_pmw (vs : Array Value) (w : World) : (callFunc 133 vs).run C1.P w = .ok (.enter 133 vs) w := by kernel_rfl
theorem with_pure (p l : List Int) (hm : p.length ≤ 9000000000000000000) : Pure C1 133 [dIs p, dIs l] (fun y => y = withY p l) := by
  have hdp : (p.map dI).length = p.length := List.length_map _
  have hdl : (l.map dI).length = l.length := List.length_map _
  have hr := permright_pure p hm
  unfold withY
  refine pure_of c1_ok (pl := pl_pmw) (G := G_pmw) Tryz.func133 rfl Tryz.ntmps133 run_pmw cok_pmw (by simp) ?_
  cases h : ordR p with
  | false =>
    rw [h] at hr
    rw [if_pos rfl]
    (conv => whnf)
    (repeat' ((first | refine ord_ok (by (conv => whnf); (repeat' ((first | refine call_eq rfl hr ?_ | refine call_eq rfl (wrong_pure 0) ?_ | refine ify ?_ | refine ifn ?_ | refine i6 ?_ | refine ati ?_ | refine mst ?_ | refine rmd ?_ | refine ibo (fun _ => ?_) (fun _ => ?_)) <;> conv => whnf)); (all_goals (repeat' (first | exact trivial | exact rfl | refine And.intro ?_ ?_)))) ?_ | refine call_eq rfl hr ?_ | refine call_eq rfl (wrong_pure 0) ?_ | refine ify ?_ | refine ifn ?_ | refine i6 ?_ | refine ati ?_ | refine mst ?_ | refine rmd ?_ | refine ibo (fun _ => ?_) (fun _ => ?_)) <;> conv => whnf))
    exact rfl
  | true =>
    rw [h] at hr
    rw [if_neg (by decide)]
    by_cases hl : p.length = l.length
    · rw [if_pos hl]
      (conv => whnf)
      (repeat' ((first | refine ord_ok (by (conv => whnf); (repeat' ((first | refine call_eq rfl hr ?_ | refine ify ?_ | refine ifn ?_ | refine i6 ?_ | refine ati ?_ | refine mst ?_ | refine rmd ?_ | refine ibo (fun _ => ?_) (fun _ => ?_)) <;> conv => whnf)); (all_goals (repeat' (first | exact trivial | exact rfl | refine And.intro ?_ ?_)))) ?_ | refine call_eq rfl hr ?_ | refine ify ?_ | refine ifn ?_ | refine i6 ?_ | refine ati ?_ | refine mst ?_ | refine rmd ?_ | refine ibo (fun _ => ?_) (fun _ => ?_)) <;> conv => whnf))
      exact rfl
    · rw [if_neg hl]
      (conv => whnf)
      (repeat' ((first | refine ord_ok (by (conv => whnf); (repeat' ((first | refine call_eq rfl hr ?_ | refine call_eq rfl (wrong_pure 1) ?_ | refine ify ?_ | refine ifn ?_ | refine i6 ?_ | refine ati ?_ | refine mst ?_ | refine rmd ?_ | refine ibo (fun _ => ?_) (fun _ => ?_)) <;> conv => whnf)); (all_goals (repeat' (first | exact trivial | exact rfl | refine And.intro ?_ ?_)))) ?_ | refine call_eq rfl hr ?_ | refine call_eq rfl (wrong_pure 1) ?_ | refine ify ?_ | refine ifn ?_ | refine i6 ?_ | refine ati ?_ | refine mst ?_ | refine rmd ?_ | refine ibo (fun _ => ?_) (fun _ => ?_)) <;> conv => whnf))
      exact rfl
def putY (p l : List Int) : Da := if ordR p = false then .tuple [.nils, dF 1 0 ordS] else if p.length = l.length then .tuple [dIs (putL p l p.length), .nili] else .tuple [.nils, dF 1 1 ordS]
def pl_pmp : List (Nat × Plan) := []
def G_pmp : List FuncId := [133]
theorem cok_pmp : codeOk Tryz.prog G_pmp pl_pmp (Tryz.f72.body.getD .skip) = true := by kernel_rfl
theorem run_pmp (vs : Array Value) (w : World) : (callFunc 72 vs).run C1.P w = .ok (.enter 72 vs) w := by kernel_rfl
set_option maxHeartbeats 4000000 in
theorem permput_pure (p l : List Int) (hm : p.length ≤ 9000000000000000000) : Pure C1 72 [dIs p, dIs l] (fun y => y = putY p l) := by
  have hdp : (p.map dI).length = p.length := List.length_map _
  have hdl : (l.map dI).length = l.length := List.length_map _
  have hw := with_pure p l hm
  unfold putY
  unfold withY at hw
  refine pure_of c1_ok (pl := pl_pmp) (G := G_pmp) Tryz.func72 rfl Tryz.ntmps72 run_pmp cok_pmp (by simp) ?_
  cases h : ordR p with
  | false =>
    rw [h, if_pos rfl] at hw
    rw [if_pos rfl]
    (conv => whnf)
    (repeat' ((first | refine ord_ok (by (conv => whnf); (repeat' ((first | refine call_eq rfl hw ?_ | refine ify ?_ | refine ifn ?_ | refine i6 ?_ | refine ati ?_ | refine mst ?_ | refine rmd ?_ | refine ibo (fun _ => ?_) (fun _ => ?_)) <;> conv => whnf)); (all_goals (repeat' (first | exact trivial | exact rfl | refine And.intro ?_ ?_)))) ?_ | refine call_eq rfl hw ?_ | refine ify ?_ | refine ifn ?_ | refine i6 ?_ | refine ati ?_ | refine mst ?_ | refine rmd ?_ | refine ibo (fun _ => ?_) (fun _ => ?_)) <;> conv => whnf))
    exact rfl
  | true =>
    rw [h, if_neg (by decide)] at hw
    rw [if_neg (by decide)]
    by_cases hl : p.length = l.length
    · rw [if_pos hl] at hw ⊢
      have h2 := h
      unfold ordR at h2
      simp only [Bool.and_eq_true, decide_eq_true_eq] at h2
      obtain ⟨h8, hr, hn⟩ := h2
      (conv => whnf)
      (repeat' ((first | refine ord_ok (by (conv => whnf); (repeat' ((first | refine call_eq rfl hw ?_ | refine mk_ok l.length (by omega) (by omega) (by omega) ?_ | refine ify ?_ | refine ifn ?_ | refine i6 ?_ | refine ati ?_ | refine mst ?_ | refine rmd ?_ | refine ibo (fun _ => ?_) (fun _ => ?_)) <;> conv => whnf)); (all_goals (repeat' (first | exact trivial | exact rfl | refine And.intro ?_ ?_)))) ?_ | refine call_eq rfl hw ?_ | refine mk_ok l.length (by omega) (by omega) (by omega) ?_ | refine ify ?_ | refine ifn ?_ | refine i6 ?_ | refine ati ?_ | refine mst ?_ | refine rmd ?_ | refine ibo (fun _ => ?_) (fun _ => ?_)) <;> conv => whnf))
      refine loop_lo (ι := Nat) (fun i => i ≤ p.length) (fun i => [(21, .d (.int .i64 i)), (20, .d (.int .i64 (p.map dI).length)), (19, .d (dIs p)), (7, .own 18), (1, .d (dIs l))]) (fun i => [(18, .slice 3 1 ((putL p l i).map dI))]) (fun i => p.length - i) 0 (fun _ => rfl) (Nat.zero_le _) (.refl _ _) ⟨rfl, rfl, rfl, rfl, rfl, trivial⟩ ⟨slice_is (by simp [putL, dI]), trivial⟩ ?_
      intro i hi
      refine sxCode_sound c1_ok (G := G_pmp) (pl := pl_pmp) _ _ _ _ (by kernel_rfl) ?_
      by_cases hil : i < p.length
      · have hx := List.getElem?_eq_getElem hil
        have hxm := hr _ (List.getElem_mem hil)
        generalize p[i] = x at hx hxm
        have hy := List.getElem?_eq_getElem (l := l) (i := i) (by omega)
        generalize l[i]'(by omega) = y at hy
        obtain ⟨k, rfl⟩ := Int.eq_ofNat_of_zero_le hxm.1
        have hxd : (p.map dI)[i]? = some (.int .i64 k) := by rw [List.getElem?_map, hx]; rfl
        have hyd : (l.map dI)[i]? = some (.int .i64 y) := by rw [List.getElem?_map, hy]; rfl
        have hpl : ((putL p l i).map dI).length = l.length := by rw [List.length_map, putL_len]
        have hst := putL_step hx hy
        have hk : k < (putL p l i).length := by rw [putL_len]; omega
        obtain ⟨u, hu⟩ : ∃ u, (putL p l i)[k]? = some u := ⟨_, List.getElem?_eq_getElem hk⟩
        have hud : ((putL p l i).map dI)[k]? = some (.int .i64 u) := by rw [List.getElem?_map, hu]; rfl
        (conv => whnf)
        (repeat' ((first | refine ord_ok (by (conv => whnf); (repeat' ((first | refine at_da hxd rfl ?_ | refine at_da hyd rfl ?_ | refine el_at (i := k) rfl (by omega) ?_ | refine el_is hud ?_ | refine ify ?_ | refine ifn ?_ | refine i6 ?_ | refine ati ?_ | refine mst ?_ | refine rmd ?_ | refine ibo (fun _ => ?_) (fun _ => ?_)) <;> conv => whnf)); (all_goals (repeat' (first | exact trivial | exact rfl | refine And.intro ?_ ?_)))) ?_ | refine at_da hxd rfl ?_ | refine at_da hyd rfl ?_ | refine el_at (i := k) rfl (by omega) ?_ | refine el_is hud ?_ | refine ify ?_ | refine ifn ?_ | refine i6 ?_ | refine ati ?_ | refine mst ?_ | refine rmd ?_ | refine ibo (fun _ => ?_) (fun _ => ?_)) <;> conv => whnf))
        refine ⟨i + 1, _, _, by omega, .refl _ _, ⟨rfl, rfl, rfl, rfl, rfl, trivial⟩, ⟨slice_is ?_, trivial⟩, by omega⟩
        rw [hst, List.map_set]
        simp [dI]
      · have e : i = p.length := by omega
        subst e
        ((conv => whnf); repeat' ((first | refine odw ?_ | refine ify ?_ | refine ifn ?_ | refine i6 ?_ | refine ati ?_ | refine mst ?_ | refine rmd ?_ | refine ibo (fun _ => ?_) (fun _ => ?_)) <;> conv => whnf))
        exact rfl
    · rw [if_neg hl] at hw ⊢
      (conv => whnf)
      (repeat' ((first | refine ord_ok (by (conv => whnf); (repeat' ((first | refine call_eq rfl hw ?_ | refine ify ?_ | refine ifn ?_ | refine i6 ?_ | refine ati ?_ | refine mst ?_ | refine rmd ?_ | refine ibo (fun _ => ?_) (fun _ => ?_)) <;> conv => whnf)); (all_goals (repeat' (first | exact trivial | exact rfl | refine And.intro ?_ ?_)))) ?_ | refine call_eq rfl hw ?_ | refine ify ?_ | refine ifn ?_ | refine i6 ?_ | refine ati ?_ | refine mst ?_ | refine rmd ?_ | refine ibo (fun _ => ?_) (fun _ => ?_)) <;> conv => whnf))
      exact rfl
end Go.Proofs.YthegabgbakckfaaGreatDoor
end

section
/- Edges, plain: each put where it belongs. -/
namespace Go.Gr
def ltsB (E : List Edg) (e : Edg) : Nat := E.countP (fun x => decide (cmpE x e < 0))
/-- an edge put where it belongs -/
def insE (E : List Edg) (x : Edg) : List Edg := E.take (ltsB E x) ++ x :: E.drop (ltsB E x)
def accE (E : List Edg) (i : Nat) : List Edg := ((E.take i).map turn).foldl insE []
theorem lts_split {E : List Edg} (h : Strict E) (x : Edg) : (∀ y ∈ E.take (ltsB E x), cmpE y x < 0) ∧ ∀ y ∈ E.drop (ltsB E x), ¬ cmpE y x < 0 := by
  induction E with
  | nil => simp
  | cons z E ih =>
    obtain ⟨h1, h2⟩ := List.pairwise_cons.1 h
    by_cases hz : cmpE z x < 0
    · have e : ltsB (z :: E) x = ltsB E x + 1 := by unfold ltsB; rw [List.countP_cons_of_pos (by simp [hz])]
      rw [e, List.take_succ_cons, List.drop_succ_cons]
      obtain ⟨i1, i2⟩ := ih h2
      refine ⟨fun y hy => ?_, i2⟩
      rcases List.mem_cons.1 hy with rfl | hy
      · exact hz
      · exact i1 y hy
    · have hall : ∀ y ∈ z :: E, ¬ cmpE y x < 0 := by
        intro y hy
        rcases List.mem_cons.1 hy with rfl | hy
        · exact hz
        · exact fun hc => hz (cmpE_trans (h1 y hy) hc)
      have e : ltsB (z :: E) x = 0 := by
        unfold ltsB
        exact List.countP_eq_zero.2 fun y hy => by have := hall y hy; simpa using this
      rw [e]
      exact ⟨by simp, hall⟩
theorem insE_perm (E : List Edg) (x : Edg) : (insE E x).Perm (x :: E) := by
  unfold insE
  refine List.perm_middle.trans ?_
  rw [List.take_append_drop]
theorem insE_strict {E : List Edg} (h : Strict E) {x : Edg} (hx : x ∉ E) : Strict (insE E x) := by
  obtain ⟨h1, h2⟩ := lts_split h x
  unfold insE
  have hg : ∀ y ∈ E.drop (ltsB E x), cmpE x y < 0 := fun y hy => by
    rcases cmpE_tri x y with h3 | h3 | h3
    · exact h3
    · subst h3; exact absurd (List.mem_of_mem_drop hy) hx
    · exact absurd h3 (h2 y hy)
  refine List.pairwise_append.2 ⟨List.Pairwise.sublist (List.take_sublist _ _) h, List.pairwise_cons.2 ⟨hg, List.Pairwise.sublist (List.drop_sublist _ _) h⟩, fun a ha b hb => ?_⟩
  rcases List.mem_cons.1 hb with rfl | hb
  · exact h1 a ha
  · exact cmpE_trans (h1 a ha) (hg b hb)
theorem fold_ins (L : List Edg) (hn : L.Nodup) : ∀ E, Strict E → (∀ x ∈ L, x ∉ E) → Strict (L.foldl insE E) ∧ (L.foldl insE E).Perm (L ++ E) := by
  induction L with
  | nil => intro E h _; exact ⟨h, List.Perm.refl _⟩
  | cons x L ih =>
    intro E h hx
    obtain ⟨n1, n2⟩ := List.nodup_cons.1 hn
    have hs := insE_strict h (hx x (by simp))
    obtain ⟨i1, i2⟩ := ih n2 (insE E x) hs (fun y hy hm => by
      have := (insE_perm E x).mem_iff.1 hm
      rcases List.mem_cons.1 this with rfl | h3
      · exact n1 hy
      · exact hx y (by simp [hy]) h3)
    refine ⟨i1, i2.trans ?_⟩
    refine (List.Perm.append_left L (insE_perm E x)).trans ?_
    exact List.perm_middle
theorem accE_ok {E : List Edg} (hn : (E.map turn).Nodup) (i : Nat) : Strict (accE E i) ∧ (accE E i).Perm ((E.take i).map turn) := by
  have hn' : ((E.take i).map turn).Nodup := by rw [List.map_take]; exact hn.sublist (List.take_sublist _ _)
  have := fold_ins _ hn' [] List.Pairwise.nil (by simp)
  rwa [List.append_nil] at this
theorem accE_step {E : List Edg} {i : Nat} {x : Edg} (h : E[i]? = some x) : accE E (i + 1) = insE (accE E i) (turn x) := by
  unfold accE
  rw [List.take_add_one, h]
  simp
end Go.Gr
end

section
/- pat.Turn: of a right pattern by an order. -/
namespace Go.Gr
/-- an edge, its places by an order -/
def mvE (b : List Int) (e : Edg) : Edg := turn ⟨(b[e.a.toNat]?).getD 0, (b[e.b.toNat]?).getD 0⟩
theorem pErr_none {p : Pt} (h : pErr p = none) : lErr p.labels = none ∧ (∀ e ∈ p.edges, 0 ≤ e.a ∧ e.a < e.b ∧ e.b < p.labels.length) ∧ Strict p.edges := by
  unfold pErr at h
  cases hl : lErr p.labels with
  | some x => rw [hl] at h; cases h
  | none =>
    rw [hl] at h
    obtain ⟨h1, h2⟩ := eErr_none h
    refine ⟨rfl, h1, ?_⟩
    unfold Strict
    rw [List.pairwise_iff_getElem]
    intro i j hi hj hij
    obtain ⟨d, rfl⟩ : ∃ d, j = i + 1 + d := ⟨j - (i + 1), by omega⟩
    induction d with
    | zero => exact h2 i _ _ (List.getElem?_eq_getElem hi) (List.getElem?_eq_getElem hj)
    | succ d ih =>
      have hj' : i + 1 + d < p.edges.length := by omega
      exact cmpE_trans (ih hj' (by omega)) (h2 (i + 1 + d) _ _ (List.getElem?_eq_getElem hj') (List.getElem?_eq_getElem hj))
end Go.Gr
namespace Go.Proofs.YthegabgbakckfaaGreatDoor
open Go.Sx Go.RowKit Go.Reg Go.Gr

set_option maxRecDepth 100000
def turnP (p : Pt) (b : List Int) : Pt := ⟨putL b p.labels b.length, (p.edges.map (mvE b)).foldl insE []⟩
theorem ord_spec {b : List Int} (h : ordR b = true) : b.length ≤ 8 ∧ (∀ x ∈ b, 0 ≤ x ∧ x < b.length) ∧ b.Nodup := by
  unfold ordR at h
  simp only [Bool.and_eq_true, decide_eq_true_eq] at h
  exact ⟨h.1, h.2.1, h.2.2⟩
theorem mv_at {b : List Int} {e : Edg} (h : 0 ≤ e.a ∧ e.a < e.b ∧ e.b < b.length) : ∃ u v : Int, b[e.a.toNat]? = some u ∧ b[e.b.toNat]? = some v ∧ mvE b e = turn ⟨u, v⟩ := by
  have h1 : e.a.toNat < b.length := by omega
  have h2 : e.b.toNat < b.length := by omega
  exact ⟨_, _, List.getElem?_eq_getElem h1, List.getElem?_eq_getElem h2, by unfold mvE; rw [List.getElem?_eq_getElem h1, List.getElem?_eq_getElem h2]; rfl⟩
theorem mv_nodup {b : List Int} (hb : b.Nodup) {E : List Edg} (hE : ∀ e ∈ E, 0 ≤ e.a ∧ e.a < e.b ∧ e.b < b.length) (hn : E.Nodup) : (E.map (mvE b)).Nodup := by
  refine List.pairwise_map.2 (List.Pairwise.imp_of_mem ?_ hn)
  intro x y hx hy hxy h
  refine hxy ?_
  obtain ⟨u, v, h1, h2, h3⟩ := mv_at (hE x hx)
  obtain ⟨u2, v2, k1, k2, k3⟩ := mv_at (hE y hy)
  rw [h3, k3] at h
  have hxe := hE x hx
  have hye := hE y hy
  have hcase : (u = u2 ∧ v = v2) ∨ (u = v2 ∧ v = u2) := by unfold turn at h; simp only [Edg.mk.injEq] at h; omega
  rcases hcase with ⟨rfl, rfl⟩ | ⟨rfl, rfl⟩
  · have e1 := (List.getElem?_inj (by omega) hb).1 (h1.trans k1.symm)
    have e2 := (List.getElem?_inj (by omega) hb).1 (h2.trans k2.symm)
    cases x; cases y; simp only [Edg.mk.injEq] at *; omega
  · have e1 := (List.getElem?_inj (by omega) hb).1 (h1.trans k2.symm)
    have e2 := (List.getElem?_inj (by omega) hb).1 (h2.trans k1.symm)
    omega
theorem turn_turn (e : Edg) : turn (turn e) = turn e := by unfold turn; simp only [Edg.mk.injEq]; omega
theorem mv_turn (b : List Int) (e : Edg) : turn (mvE b e) = mvE b e := turn_turn _
theorem mv_fold {b : List Int} {E : List Edg} (hn : (E.map (mvE b)).Nodup) {out : List Edg} (hp : out.Perm (E.map (mvE b))) (ho : out.Pairwise (fun a c => ¬ cmpE c a < 0)) : out = (E.map (mvE b)).foldl insE [] := by
  obtain ⟨h1, h2⟩ := fold_ins _ hn [] List.Pairwise.nil (by simp)
  rw [List.append_nil] at h2
  exact strict_eq (hp.trans h2.symm) (strict_of (hp.nodup_iff.2 hn) ho) h1
def pl_ptn : List (Nat × Plan) := [(11, .leaf [0, 1, 0, 0, 1, 0, 1, 0, 0, 1, 0, 1, 0, 2, 6, 3, 0, 3] [0, 2, 3, 7, 8, 1, 4, 5, 6, 9, 10, 11, 12, 13, 14, 15, 16, 17] [0, 1, 0, 0, 8, 28, 60, 0, 0, 256, 896, 1920, 4092, 8188, 16380, 32767, 65535, 131071])]
def G_ptn : List FuncId := [49, 72, 74]
theorem cok_ptn : codeOk Tryz.prog G_ptn pl_ptn (Tryz.f24.body.getD .skip) = true := by kernel_rfl
theorem run_ptn (vs : Array Value) (w : World) : (callFunc 24 vs).run C1.P w = .ok (.enter 24 vs) w := by kernel_rfl
set_option maxHeartbeats 4000000 in
theorem pturn_pure (p : Pt) (hp : pErr p = none) (hE : p.edges.length ≤ 1000) (b : List Int) (hb : ordR b = true) (hbl : b.length = p.labels.length) :
    Pure C1 24 [dPt p, dIs b] (fun y => y = .tuple [dPt (turnP p b), .nili]) := by
  have hdl : (p.labels.map dI).length = p.labels.length := List.length_map _
  have hde : (p.edges.map dE).length = p.edges.length := List.length_map _
  have hdb : (b.map dI).length = b.length := List.length_map _
  obtain ⟨hl, he, hs⟩ := pErr_none hp
  obtain ⟨h8, hbr, hbn⟩ := ord_spec hb
  have hri := pright_pure p (by omega) (by omega)
  rw [rightP_none hp] at hri
  have hpu := permput_pure b p.labels (by omega)
  have epu : putY b p.labels = .tuple [dIs (putL b p.labels b.length), .nili] := by unfold putY; rw [hb, if_neg (by decide), if_pos hbl]
  rw [epu] at hpu
  refine pure_of c1_ok (pl := pl_ptn) (G := G_ptn) Tryz.func24 rfl Tryz.ntmps24 run_ptn cok_ptn (by simp) ?_
  (conv => whnf)
  (repeat' ((first | refine ord_ok (by (conv => whnf); (repeat' ((first | refine call_eq rfl hri ?_ | refine call_eq rfl hpu ?_ | refine ify ?_ | refine ifn ?_ | refine i6 ?_ | refine ati ?_ | refine mst ?_ | refine rmd ?_ | refine ibo (fun _ => ?_) (fun _ => ?_)) <;> conv => whnf)); (all_goals (repeat' (first | exact trivial | exact rfl | refine And.intro ?_ ?_)))) ?_ | refine call_eq rfl hri ?_ | refine call_eq rfl hpu ?_ | refine ify ?_ | refine ifn ?_ | refine i6 ?_ | refine ati ?_ | refine mst ?_ | refine rmd ?_ | refine ibo (fun _ => ?_) (fun _ => ?_)) <;> conv => whnf))
  refine loop_lo (ι := Nat) (fun i => i ≤ p.edges.length) (fun i => [(35, .d (.int .i64 i)), (34, .d (.int .i64 (p.edges.map dE).length)), (33, .d (dEs p.edges)), (9, .own 9), (4, .own 4), (2, .own 2), (1, .d (dIs b))]) (fun i => [(2, .cells 35 [.d (dIs p.labels), .d (dEs p.edges)]), (4, .cells 35 [.d .nils, .d .nils]), (9, .cells 35 [.d (dIs (putL b p.labels b.length)), .own 300]), (300, .slice 77 2 (((p.edges.take i).map (mvE b)).map dE))]) (fun i => p.edges.length - i) 0 (fun _ => rfl) (Nat.zero_le _) (.ownc 9 300 77 2 rfl rfl (.there _ (.here _)) (.refl _ _)) ⟨rfl, rfl, rfl, rfl, rfl, rfl, rfl, trivial⟩ ⟨rfl, rfl, rfl, rfl, trivial⟩ ?_
  intro i hi
  refine sxCode_sound c1_ok (G := G_ptn) (pl := pl_ptn) _ _ _ _ (by kernel_rfl) ?_
  by_cases hil : i < p.edges.length
  · have hx := List.getElem?_eq_getElem hil
    have hxr := he _ (List.getElem_mem hil)
    generalize p.edges[i] = x at hx hxr
    have hxd : (p.edges.map dE)[i]? = some (.agg [.int .i64 x.a, .int .i64 x.b]) := by rw [List.getElem?_map, hx]; rfl
    obtain ⟨u, v, hu, hv, hmv⟩ := mv_at (b := b) (e := x) (by rw [hbl]; exact hxr)
    obtain ⟨xa, xb⟩ := x
    obtain ⟨ka, rfl⟩ := Int.eq_ofNat_of_zero_le hxr.1
    obtain ⟨kb, rfl⟩ := Int.eq_ofNat_of_zero_le (show 0 ≤ xb by have h1 := hxr.1; have h2 := hxr.2.1; simp only at h1 h2; omega)
    have hud : (b.map dI)[ka]? = some (.int .i64 u) := by rw [List.getElem?_map, show b[ka]? = some u from hu]; rfl
    have hvd : (b.map dI)[kb]? = some (.int .i64 v) := by rw [List.getElem?_map, show b[kb]? = some v from hv]; rfl
    have htu := pturned_pure ⟨u, v⟩
    rw [← hmv] at htu
    have hll : (p.edges.take i).length = i := by rw [List.length_take]; omega
    (conv => whnf)
    (repeat' ((first | refine ord_ok (by (conv => whnf); (repeat' ((first | refine at_da hxd rfl ?_ | refine at_da hud rfl ?_ | refine at_da hvd rfl ?_ | refine call_eq rfl htu ?_ | refine ify ?_ | refine ifn ?_ | refine i6 ?_ | refine ati ?_ | refine mst ?_ | refine rmd ?_ | refine ibo (fun _ => ?_) (fun _ => ?_)) <;> conv => whnf)); (all_goals (repeat' (first | exact trivial | exact rfl | refine And.intro ?_ ?_)))) ?_ | refine at_da hxd rfl ?_ | refine at_da hud rfl ?_ | refine at_da hvd rfl ?_ | refine call_eq rfl htu ?_ | refine ify ?_ | refine ifn ?_ | refine i6 ?_ | refine ati ?_ | refine mst ?_ | refine rmd ?_ | refine ibo (fun _ => ?_) (fun _ => ?_)) <;> conv => whnf))
    refine ⟨i + 1, _, _, by omega, .refl _ _, ⟨rfl, rfl, rfl, rfl, rfl, rfl, rfl, trivial⟩, ⟨rfl, rfl, rfl, slice_is ?_, trivial⟩, by omega⟩
    rw [List.take_add_one, hx]; simp
  · have e : p.edges.take i = p.edges := List.take_of_length_le (by omega)
    rw [e]
    have hmn := mv_nodup hbn (E := p.edges) (fun e h => by rw [hbl]; exact he e h) hs.nodup
    ((conv => whnf); repeat' ((first | refine odw ?_ | refine ify ?_ | refine ifn ?_ | refine i6 ?_ | refine ati ?_ | refine mst ?_ | refine rmd ?_ | refine ibo (fun _ => ?_) (fun _ => ?_)) <;> conv => whnf))
    refine call_tsl (i := 300) rfl rfl (pasort_tsl (p.edges.map (mvE b)) (by rw [List.length_map]; omega)) ?_
    rintro y ds ⟨out, rfl, hpo, hoo⟩
    rw [mv_fold hmn hpo hoo]
    ((conv => whnf); repeat' ((first | refine odw ?_ | refine ify ?_ | refine ifn ?_ | refine i6 ?_ | refine ati ?_ | refine mst ?_ | refine rmd ?_ | refine ibo (fun _ => ?_) (fun _ => ?_)) <;> conv => whnf))
    exact rfl
end Go.Proofs.YthegabgbakckfaaGreatDoor
end

section
/- pat.Compare. -/
namespace Go.Gr
/-- thing by thing, then by length -/
def cmpF {α : Type} (f : α → α → Int) : List α → List α → Int
  | [], [] => 0
  | [], _ :: _ => -1
  | _ :: _, [] => 1
  | x :: a, y :: b => if f x y = 0 then cmpF f a b else f x y
theorem cmpF_cons {α : Type} (f : α → α → Int) (x y : α) (a b : List α) : cmpF f (x :: a) (y :: b) = if f x y = 0 then cmpF f a b else f x y := rfl
/-- the first that is not 0 -/
def orF : List Int → Int
  | [] => 0
  | x :: l => if x = 0 then orF l else x
/-- which pattern comes ahead -/
def cmpP (p q : Pt) : Int := orF [cmpI p.labels.length q.labels.length, cmpF cmpI p.labels q.labels, cmpI p.edges.length q.edges.length, cmpF cmpE p.edges q.edges]
end Go.Gr
namespace Go.Proofs.YthegabgbakckfaaGreatDoor
open Go.Sx Go.RowKit Go.Reg Go.Gr

set_option maxRecDepth 100000
def pl_slc : List (Nat × Plan) := []
def G_slc : List FuncId := [78]
theorem cok_slc : codeOk Tryz.prog G_slc pl_slc (Tryz.f79.body.getD .skip) = true := by kernel_rfl
theorem run_slc (vs : Array Value) (w : World) : (callFunc 79 vs).run C1.P w = .ok (.enter 79 vs) w := by kernel_rfl
set_option maxHeartbeats 4000000 in
theorem slcompare_pure (a b : List Int) (hm : a.length ≤ 9000000000000000000) (_hm2 : b.length ≤ 9000000000000000000) : Pure C1 79 [dIs a, dIs b] (fun y => y = .int .i64 (cmpF cmpI a b)) := by
  have hda : (a.map dI).length = a.length := List.length_map _
  have hdb : (b.map dI).length = b.length := List.length_map _
  refine pure_of c1_ok (pl := pl_slc) (G := G_slc) Tryz.func79 rfl Tryz.ntmps79 run_slc cok_slc (by simp) ?_
  ((conv => whnf); repeat' ((first | refine odw ?_ | refine ify ?_ | refine ifn ?_ | refine i6 ?_ | refine ati ?_ | refine mst ?_ | refine rmd ?_ | refine ibo (fun _ => ?_) (fun _ => ?_)) <;> conv => whnf))
  refine loop_lo (ι := Nat) (fun i => (i ≤ a.length ∧ i ≤ b.length) ∧ cmpF cmpI (a.drop i) (b.drop i) = cmpF cmpI a b) (fun i => [(11, .d (.int .i64 i)), (10, .d (.int .i64 (a.map dI).length)), (9, .d (dIs a)), (1, .d (dIs b)), (0, .d (dIs a))]) (fun _ => []) (fun i => a.length - i) 0 (fun _ => rfl) ⟨⟨Nat.zero_le _, Nat.zero_le _⟩, rfl⟩ (.refl _ _) ⟨rfl, rfl, rfl, rfl, rfl, trivial⟩ trivial ?_
  rintro i ⟨⟨hi, hi2⟩, hc⟩
  rw [← hc]
  refine sxCode_sound c1_ok (G := G_slc) (pl := pl_slc) _ _ _ _ (by kernel_rfl) ?_
  by_cases hil : i < a.length
  · have hx := List.getElem?_eq_getElem hil
    rw [List.drop_eq_getElem_cons hil] at hc ⊢
    generalize a[i] = x at hx hc
    have hxd : (a.map dI)[i]? = some (.int .i64 x) := by rw [List.getElem?_map, hx]; rfl
    by_cases hib : i < b.length
    · have hy := List.getElem?_eq_getElem hib
      rw [List.drop_eq_getElem_cons hib] at hc ⊢
      generalize b[i] = y at hy hc
      have hyd : (b.map dI)[i]? = some (.int .i64 y) := by rw [List.getElem?_map, hy]; rfl
      have hcp := compare_pure x y
      rw [cmpF_cons] at hc ⊢
      by_cases h0 : cmpI x y = 0
      · rw [if_pos h0] at hc ⊢
        rw [h0] at hcp
        (conv => whnf)
        (repeat' ((first | refine ord_ok (by (conv => whnf); (repeat' ((first | refine at_da hxd rfl ?_ | refine at_da hyd rfl ?_ | refine call_eq rfl hcp ?_ | refine ify ?_ | refine ifn ?_ | refine i6 ?_ | refine ati ?_ | refine mst ?_ | refine rmd ?_ | refine ibo (fun _ => ?_) (fun _ => ?_)) <;> conv => whnf)); (all_goals (repeat' (first | exact trivial | exact rfl | refine And.intro ?_ ?_)))) ?_ | refine at_da hxd rfl ?_ | refine at_da hyd rfl ?_ | refine call_eq rfl hcp ?_ | refine ify ?_ | refine ifn ?_ | refine i6 ?_ | refine ati ?_ | refine mst ?_ | refine rmd ?_ | refine ibo (fun _ => ?_) (fun _ => ?_)) <;> conv => whnf))
        exact ⟨i + 1, _, _, ⟨⟨by omega, by omega⟩, rfl⟩, .refl _ _, ⟨rfl, rfl, rfl, rfl, rfl, trivial⟩, trivial, by omega⟩
      · rw [if_neg h0]
        generalize cmpI x y = z at hcp h0
        (conv => whnf)
        (repeat' ((first | refine ord_ok (by (conv => whnf); (repeat' ((first | refine at_da hxd rfl ?_ | refine at_da hyd rfl ?_ | refine call_eq rfl hcp ?_ | refine ify ?_ | refine ifn ?_ | refine i6 ?_ | refine ati ?_ | refine mst ?_ | refine rmd ?_ | refine ibo (fun _ => ?_) (fun _ => ?_)) <;> conv => whnf)); (all_goals (repeat' (first | exact trivial | exact rfl | refine And.intro ?_ ?_)))) ?_ | refine at_da hxd rfl ?_ | refine at_da hyd rfl ?_ | refine call_eq rfl hcp ?_ | refine ify ?_ | refine ifn ?_ | refine i6 ?_ | refine ati ?_ | refine mst ?_ | refine rmd ?_ | refine ibo (fun _ => ?_) (fun _ => ?_)) <;> conv => whnf))
        exact rfl
    · have hbe : b.drop i = [] := List.drop_of_length_le (by omega)
      rw [hbe]
      unfold cmpF
      (conv => whnf)
      (repeat' ((first | refine ord_ok (by (conv => whnf); (repeat' ((first | refine at_da hxd rfl ?_ | refine ify ?_ | refine ifn ?_ | refine i6 ?_ | refine ati ?_ | refine mst ?_ | refine rmd ?_ | refine ibo (fun _ => ?_) (fun _ => ?_)) <;> conv => whnf)); (all_goals (repeat' (first | exact trivial | exact rfl | refine And.intro ?_ ?_)))) ?_ | refine at_da hxd rfl ?_ | refine ify ?_ | refine ifn ?_ | refine i6 ?_ | refine ati ?_ | refine mst ?_ | refine rmd ?_ | refine ibo (fun _ => ?_) (fun _ => ?_)) <;> conv => whnf))
      exact rfl
  · have hae : a.drop i = [] := List.drop_of_length_le (by omega)
    rw [hae]
    by_cases hib : i < b.length
    · rw [List.drop_eq_getElem_cons hib]
      unfold cmpF
      have hlt : a.length < b.length := by omega
      ((conv => whnf); repeat' ((first | refine odw ?_ | refine ify ?_ | refine ifn ?_ | refine i6 ?_ | refine ati ?_ | refine mst ?_ | refine rmd ?_ | refine ibo (fun _ => ?_) (fun _ => ?_)) <;> conv => whnf))
      exact rfl
    · have hbe : b.drop i = [] := List.drop_of_length_le (by omega)
      rw [hbe]
      unfold cmpF
      have hlt : ¬ a.length < b.length := by omega
      ((conv => whnf); repeat' ((first | refine odw ?_ | refine ify ?_ | refine ifn ?_ | refine i6 ?_ | refine ati ?_ | refine mst ?_ | refine rmd ?_ | refine ibo (fun _ => ?_) (fun _ => ?_)) <;> conv => whnf))
      exact rfl
def pl_slf : List (Nat × Plan) := []
def G_slf : List FuncId := []
theorem cok_slf : codeOk Tryz.prog G_slf pl_slf (Tryz.f80.body.getD .skip) = true := by kernel_rfl
theorem run_slf (vs : Array Value) (w : World) : (callFunc 80 vs).run C1.P w = .ok (.enter 80 vs) w := by kernel_rfl
set_option maxHeartbeats 4000000 in
theorem slcomparef_pure (a b : List Edg) (hm : a.length ≤ 9000000000000000000) (_hm2 : b.length ≤ 9000000000000000000) : Pure C1 80 [dEs a, dEs b, .func (.func 76) [] []] (fun y => y = .int .i64 (cmpF cmpE a b)) := by
  have hda : (a.map dE).length = a.length := List.length_map _
  have hdb : (b.map dE).length = b.length := List.length_map _
  refine pure_of c1_ok (pl := pl_slf) (G := G_slf) Tryz.func80 rfl Tryz.ntmps80 run_slf cok_slf (by simp) ?_
  ((conv => whnf); repeat' ((first | refine odw ?_ | refine ify ?_ | refine ifn ?_ | refine i6 ?_ | refine ati ?_ | refine mst ?_ | refine rmd ?_ | refine ibo (fun _ => ?_) (fun _ => ?_)) <;> conv => whnf))
  refine loop_lo (ι := Nat) (fun i => (i ≤ a.length ∧ i ≤ b.length) ∧ cmpF cmpE (a.drop i) (b.drop i) = cmpF cmpE a b) (fun i => [(13, .d (.int .i64 i)), (12, .d (.int .i64 (a.map dE).length)), (11, .d (dEs a)), (2, .d (.func (.func 76) [] [])), (1, .d (dEs b)), (0, .d (dEs a))]) (fun _ => []) (fun i => a.length - i) 0 (fun _ => rfl) ⟨⟨Nat.zero_le _, Nat.zero_le _⟩, rfl⟩ (.refl _ _) ⟨rfl, rfl, rfl, rfl, rfl, rfl, trivial⟩ trivial ?_
  rintro i ⟨⟨hi, hi2⟩, hc⟩
  rw [← hc]
  refine sxCode_sound c1_ok (G := G_slf) (pl := pl_slf) _ _ _ _ (by kernel_rfl) ?_
  by_cases hil : i < a.length
  · have hx := List.getElem?_eq_getElem hil
    rw [List.drop_eq_getElem_cons hil] at hc ⊢
    generalize a[i] = x at hx hc
    have hxd : (a.map dE)[i]? = some (.agg [.int .i64 x.a, .int .i64 x.b]) := by rw [List.getElem?_map, hx]; rfl
    by_cases hib : i < b.length
    · have hy := List.getElem?_eq_getElem hib
      rw [List.drop_eq_getElem_cons hib] at hc ⊢
      generalize b[i] = y at hy hc
      have hyd : (b.map dE)[i]? = some (.agg [.int .i64 y.a, .int .i64 y.b]) := by rw [List.getElem?_map, hy]; rfl
      have hcp := porder_pure x y
      rw [cmpF_cons] at hc ⊢
      by_cases h0 : cmpE x y = 0
      · rw [if_pos h0] at hc ⊢
        rw [h0] at hcp
        (conv => whnf)
        (repeat' ((first | refine ord_ok (by (conv => whnf); (repeat' ((first | refine at_da hxd rfl ?_ | refine at_da hyd rfl ?_ | refine call_eq rfl hcp ?_ | refine call_eqb tab rfl hcp rfl ?_ | refine ify ?_ | refine ifn ?_ | refine i6 ?_ | refine ati ?_ | refine mst ?_ | refine rmd ?_ | refine ibo (fun _ => ?_) (fun _ => ?_)) <;> conv => whnf)); (all_goals (repeat' (first | exact trivial | exact rfl | refine And.intro ?_ ?_)))) ?_ | refine at_da hxd rfl ?_ | refine at_da hyd rfl ?_ | refine call_eq rfl hcp ?_ | refine call_eqb tab rfl hcp rfl ?_ | refine ify ?_ | refine ifn ?_ | refine i6 ?_ | refine ati ?_ | refine mst ?_ | refine rmd ?_ | refine ibo (fun _ => ?_) (fun _ => ?_)) <;> conv => whnf))
        exact ⟨i + 1, _, _, ⟨⟨by omega, by omega⟩, rfl⟩, .refl _ _, ⟨rfl, rfl, rfl, rfl, rfl, rfl, trivial⟩, trivial, by omega⟩
      · rw [if_neg h0]
        generalize cmpE x y = z at hcp h0
        (conv => whnf)
        (repeat' ((first | refine ord_ok (by (conv => whnf); (repeat' ((first | refine at_da hxd rfl ?_ | refine at_da hyd rfl ?_ | refine call_eq rfl hcp ?_ | refine call_eqb tab rfl hcp rfl ?_ | refine ify ?_ | refine ifn ?_ | refine i6 ?_ | refine ati ?_ | refine mst ?_ | refine rmd ?_ | refine ibo (fun _ => ?_) (fun _ => ?_)) <;> conv => whnf)); (all_goals (repeat' (first | exact trivial | exact rfl | refine And.intro ?_ ?_)))) ?_ | refine at_da hxd rfl ?_ | refine at_da hyd rfl ?_ | refine call_eq rfl hcp ?_ | refine call_eqb tab rfl hcp rfl ?_ | refine ify ?_ | refine ifn ?_ | refine i6 ?_ | refine ati ?_ | refine mst ?_ | refine rmd ?_ | refine ibo (fun _ => ?_) (fun _ => ?_)) <;> conv => whnf))
        exact rfl
    · have hbe : b.drop i = [] := List.drop_of_length_le (by omega)
      rw [hbe]
      unfold cmpF
      (conv => whnf)
      (repeat' ((first | refine ord_ok (by (conv => whnf); (repeat' ((first | refine at_da hxd rfl ?_ | refine ify ?_ | refine ifn ?_ | refine i6 ?_ | refine ati ?_ | refine mst ?_ | refine rmd ?_ | refine ibo (fun _ => ?_) (fun _ => ?_)) <;> conv => whnf)); (all_goals (repeat' (first | exact trivial | exact rfl | refine And.intro ?_ ?_)))) ?_ | refine at_da hxd rfl ?_ | refine ify ?_ | refine ifn ?_ | refine i6 ?_ | refine ati ?_ | refine mst ?_ | refine rmd ?_ | refine ibo (fun _ => ?_) (fun _ => ?_)) <;> conv => whnf))
      exact rfl
  · have hae : a.drop i = [] := List.drop_of_length_le (by omega)
    rw [hae]
    by_cases hib : i < b.length
    · rw [List.drop_eq_getElem_cons hib]
      unfold cmpF
      have hlt : a.length < b.length := by omega
      ((conv => whnf); repeat' ((first | refine odw ?_ | refine ify ?_ | refine ifn ?_ | refine i6 ?_ | refine ati ?_ | refine mst ?_ | refine rmd ?_ | refine ibo (fun _ => ?_) (fun _ => ?_)) <;> conv => whnf))
      exact rfl
    · have hbe : b.drop i = [] := List.drop_of_length_le (by omega)
      rw [hbe]
      unfold cmpF
      have hlt : ¬ a.length < b.length := by omega
      ((conv => whnf); repeat' ((first | refine odw ?_ | refine ify ?_ | refine ifn ?_ | refine i6 ?_ | refine ati ?_ | refine mst ?_ | refine rmd ?_ | refine ibo (fun _ => ?_) (fun _ => ?_)) <;> conv => whnf))
      exact rfl
theorem orF_cons (x : Int) (l : List Int) : orF (x :: l) = if x = 0 then orF l else x := rfl
def pl_corl : List (Nat × Plan) := []
def G_corl : List FuncId := []
theorem cok_corl : codeOk Tryz.prog G_corl pl_corl (Tryz.f77.body.getD .skip) = true := by kernel_rfl
theorem run_corl (vs : Array Value) (w : World) : (callFunc 77 vs).run C1.P w = .ok (.enter 77 vs) w := by kernel_rfl
theorem orl_pure (l : List Int) (hm : l.length ≤ 100) : Pure C1 77 [dIs l] (fun y => y = .int .i64 (orF l)) := by
  have hdl : (l.map dI).length = l.length := List.length_map _
  refine pure_of c1_ok (pl := pl_corl) (G := G_corl) Tryz.func77 rfl Tryz.ntmps77 run_corl cok_corl (by simp) ?_
  ((conv => whnf); repeat' ((first | refine odw ?_ | refine ify ?_ | refine ifn ?_ | refine i6 ?_ | refine ati ?_ | refine mst ?_ | refine rmd ?_ | refine ibo (fun _ => ?_) (fun _ => ?_)) <;> conv => whnf))
  refine loop_lo (ι := Nat) (fun i => i ≤ l.length ∧ orF (l.drop i) = orF l) (fun i => [(8, .d (.int .i64 i)), (7, .d (.int .i64 (l.map dI).length)), (6, .d (dIs l)), (3, .d (.int .i64 0))]) (fun _ => []) (fun i => l.length - i) 0 (fun _ => rfl) ⟨Nat.zero_le _, rfl⟩ (.refl _ _) ⟨rfl, rfl, rfl, rfl, trivial⟩ trivial ?_
  rintro i ⟨hi, hc⟩
  rw [← hc]
  refine sxCode_sound c1_ok (G := G_corl) (pl := pl_corl) _ _ _ _ (by kernel_rfl) ?_
  by_cases hil : i < l.length
  · have hx := List.getElem?_eq_getElem hil
    rw [List.drop_eq_getElem_cons hil, orF_cons]
    generalize l[i] = x at hx
    have hxd : (l.map dI)[i]? = some (.int .i64 x) := by rw [List.getElem?_map, hx]; rfl
    by_cases h0 : x = 0
    · rw [if_pos h0]
      (conv => whnf)
      (repeat' ((first | refine ord_ok (by (conv => whnf); (repeat' ((first | refine at_da hxd rfl ?_ | refine ify ?_ | refine ifn ?_ | refine i6 ?_ | refine ati ?_ | refine mst ?_ | refine rmd ?_ | refine ibo (fun _ => ?_) (fun _ => ?_)) <;> conv => whnf)); (all_goals (repeat' (first | exact trivial | exact rfl | refine And.intro ?_ ?_)))) ?_ | refine at_da hxd rfl ?_ | refine ify ?_ | refine ifn ?_ | refine i6 ?_ | refine ati ?_ | refine mst ?_ | refine rmd ?_ | refine ibo (fun _ => ?_) (fun _ => ?_)) <;> conv => whnf))
      exact ⟨i + 1, _, _, ⟨by omega, rfl⟩, .refl _ _, ⟨rfl, rfl, rfl, rfl, trivial⟩, trivial, by omega⟩
    · rw [if_neg h0]
      (conv => whnf)
      (repeat' ((first | refine ord_ok (by (conv => whnf); (repeat' ((first | refine at_da hxd rfl ?_ | refine ify ?_ | refine ifn ?_ | refine i6 ?_ | refine ati ?_ | refine mst ?_ | refine rmd ?_ | refine ibo (fun _ => ?_) (fun _ => ?_)) <;> conv => whnf)); (all_goals (repeat' (first | exact trivial | exact rfl | refine And.intro ?_ ?_)))) ?_ | refine at_da hxd rfl ?_ | refine ify ?_ | refine ifn ?_ | refine i6 ?_ | refine ati ?_ | refine mst ?_ | refine rmd ?_ | refine ibo (fun _ => ?_) (fun _ => ?_)) <;> conv => whnf))
      exact rfl
  · rw [show l.drop i = [] from List.drop_of_length_le (by omega)]
    ((conv => whnf); repeat' ((first | refine odw ?_ | refine ify ?_ | refine ifn ?_ | refine i6 ?_ | refine ati ?_ | refine mst ?_ | refine rmd ?_ | refine ibo (fun _ => ?_) (fun _ => ?_)) <;> conv => whnf))
    exact rfl
def pl_ptcmp : List (Nat × Plan) := [(1, .leaf [0, 1, 0, 0, 1, 0, 2, 0, 1, 0, 1, 2, 0, 1, 0, 0, 1, 0, 2, 0, 1, 0, 1, 2, 6, 2, 0] [0, 3, 7, 9, 12, 15, 19, 21, 1, 2, 4, 5, 8, 10, 13, 14, 16, 17, 20, 22, 6, 11, 18, 23, 24, 25, 26] [0, 1, 3, 0, 8, 24, 63, 0, 128, 0, 512, 2047, 0, 4096, 12288, 0, 32768, 98304, 262143, 0, 524288, 0, 2097152, 8388607, 16777215, 33554431, 67108863])]
def G_ptcmp : List FuncId := [78, 79, 80, 77]
theorem cok_ptcmp : codeOk Tryz.prog G_ptcmp pl_ptcmp (Tryz.f26.body.getD .skip) = true := by kernel_rfl
theorem run_ptcmp (vs : Array Value) (w : World) : (callFunc 26 vs).run C1.P w = .ok (.enter 26 vs) w := by kernel_rfl
set_option maxHeartbeats 4000000 in
theorem ptcompare_pure (p q : Pt) (h1 : p.labels.length ≤ 9000000000000000000) (h2 : q.labels.length ≤ 9000000000000000000) (h3 : p.edges.length ≤ 9000000000000000000) (h4 : q.edges.length ≤ 9000000000000000000) :
    Pure C1 26 [dPt p, dPt q] (fun y => y = .int .i64 (cmpP p q)) := by
  have g1 : (p.labels.map dI).length = p.labels.length := List.length_map _
  have g2 : (q.labels.map dI).length = q.labels.length := List.length_map _
  have g3 : (p.edges.map dE).length = p.edges.length := List.length_map _
  have g4 : (q.edges.map dE).length = q.edges.length := List.length_map _
  have c1 := compare_pure (p.labels.map dI).length (q.labels.map dI).length
  have c2 := slcompare_pure p.labels q.labels h1 h2
  have c3 := compare_pure (p.edges.map dE).length (q.edges.map dE).length
  have c4 := slcomparef_pure p.edges q.edges h3 h4
  have co := orl_pure [cmpI (p.labels.map dI).length (q.labels.map dI).length, cmpF cmpI p.labels q.labels, cmpI (p.edges.map dE).length (q.edges.map dE).length, cmpF cmpE p.edges q.edges] (by simp)
  have e : orF [cmpI (p.labels.map dI).length (q.labels.map dI).length, cmpF cmpI p.labels q.labels, cmpI (p.edges.map dE).length (q.edges.map dE).length, cmpF cmpE p.edges q.edges] = cmpP p q := by unfold cmpP; rw [g1, g2, g3, g4]
  rw [e] at co
  refine pure_of c1_ok (pl := pl_ptcmp) (G := G_ptcmp) Tryz.func26 rfl Tryz.ntmps26 run_ptcmp cok_ptcmp (by simp) ?_
  (conv => whnf)
  (repeat' ((first | refine ord_ok (by (conv => whnf); (repeat' ((first | refine call_eqb tab rfl c1 rfl ?_ | refine call_eqb tab rfl c2 rfl ?_ | refine call_eqb tab rfl c3 rfl ?_ | refine call_eqb tab rfl c4 rfl ?_ | refine call_eqb tab rfl co rfl ?_ | refine ify ?_ | refine ifn ?_ | refine i6 ?_ | refine ati ?_ | refine mst ?_ | refine rmd ?_ | refine ibo (fun _ => ?_) (fun _ => ?_)) <;> conv => whnf)); (all_goals (repeat' (first | exact trivial | exact rfl | refine And.intro ?_ ?_)))) ?_ | refine call_eqb tab rfl c1 rfl ?_ | refine call_eqb tab rfl c2 rfl ?_ | refine call_eqb tab rfl c3 rfl ?_ | refine call_eqb tab rfl c4 rfl ?_ | refine call_eqb tab rfl co rfl ?_ | refine ify ?_ | refine ifn ?_ | refine i6 ?_ | refine ati ?_ | refine mst ?_ | refine rmd ?_ | refine ibo (fun _ => ?_) (fun _ => ?_)) <;> conv => whnf))
  exact rfl
end Go.Proofs.YthegabgbakckfaaGreatDoor
end
