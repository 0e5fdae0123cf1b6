/- Merged: Qig Qih Imc Ime Pso. -/
import Derived.Test.YteigfapjiekdnaaGreatDoorKcan
import Derived.Test.YteigfapjiekdnaaGreatDoorKcaj
import Derived.Test.YteigfapjiekdnaaGreatDoorKcag
import Derived.Test.YteigfapjiekdnaaGreatDoorKcaf
section
/- quick: Images. ref12: Images. -/
namespace Go.Proofs.YteigfapjiekdnaaGreatDoor
open Go.Sx Go.RowKit Go.Reg Go.Gr

set_option maxRecDepth 100000
theorem rightP_some {p : Pt} {c : Int} {i : Nat} (h : pErr p = some (c, i)) : ∃ s, rightP p = dF c i s := by
  unfold pErr at h
  unfold rightP
  split at h
  · rename_i x hl
    cases h
    rw [hl]
    exact ⟨_, rfl⟩
  · rename_i hl
    rw [hl]
    simp only
    rw [h]
    exact ⟨_, rfl⟩
def imagesY (G : Gr) (p : Pt) (whole : Bool) : Da := if pErr p = none ∧ p.labels ≠ [] then dLL (imgs G.labels.length (okI G p whole) p.labels.length []) else .nils
def pl_qiI : List (Nat × Plan) := []
def G_qiI : List FuncId := [31, 67]
theorem cok_qiI : codeOk Tryz.prog G_qiI pl_qiI (Tryz.f28.body.getD .skip) = true := by kernel_rfl
theorem run_qiI (vs : Array Value) (w : World) : (callFunc 28 vs).run C1.P w = .ok (.enter 28 vs) w := by kernel_rfl
theorem qimages_pure (G : Gr) (hG : G.Ok) (p : Pt) (whole : Bool) (hG10 : G.labels.length ≤ 10) (hpl : p.labels.length ≤ 9000000000000000000) (hpe : p.edges.length ≤ 100000) : Pure C1 28 [dG G, dPt p, .bool whole] (fun y => y = imagesY G p whole) := by
  have hdp : (p.labels.map dI).length = p.labels.length := List.length_map _
  have hr := pright_pure p (by omega) (by omega)
  refine pure_of c1_ok (pl := pl_qiI) (G := G_qiI) Tryz.func28 rfl Tryz.ntmps28 run_qiI cok_qiI (by simp) ?_
  cases he : pErr p with
  | some x =>
    obtain ⟨c, i⟩ := x
    obtain ⟨s, hs⟩ := rightP_some he
    rw [hs] at hr
    have e : imagesY G p whole = .nils := by unfold imagesY; rw [if_neg (fun h => by rw [he] at h; cases h.1)]
    rw [e]
    (conv => whnf)
    (repeat' ((first | refine ord_ok (by (conv => whnf); (repeat' ((first | refine call_eq rfl hr ?_ | refine ify ?_ | refine ifn ?_ | refine i6 ?_ | refine ati ?_ | refine mst ?_ | refine rmd ?_ | refine ibo (fun _ => ?_) (fun _ => ?_)) <;> conv => whnf)); (all_goals (repeat' (first | exact trivial | exact rfl | refine And.intro ?_ ?_)))) ?_ | refine call_eq rfl hr ?_ | refine ify ?_ | refine ifn ?_ | refine i6 ?_ | refine ati ?_ | refine mst ?_ | refine rmd ?_ | refine ibo (fun _ => ?_) (fun _ => ?_)) <;> conv => whnf))
    exact rfl
  | none =>
    rw [rightP_none he] at hr
    by_cases h0 : p.labels.length = 0
    · have e : imagesY G p whole = .nils := by unfold imagesY; rw [if_neg (fun h => h.2 (List.eq_nil_of_length_eq_zero h0))]
      rw [e]
      (conv => whnf)
      (repeat' ((first | refine ord_ok (by (conv => whnf); (repeat' ((first | refine call_eq rfl hr ?_ | refine ify ?_ | refine ifn ?_ | refine i6 ?_ | refine ati ?_ | refine mst ?_ | refine rmd ?_ | refine ibo (fun _ => ?_) (fun _ => ?_)) <;> conv => whnf)); (all_goals (repeat' (first | exact trivial | exact rfl | refine And.intro ?_ ?_)))) ?_ | refine call_eq rfl hr ?_ | refine ify ?_ | refine ifn ?_ | refine i6 ?_ | refine ati ?_ | refine mst ?_ | refine rmd ?_ | refine ibo (fun _ => ?_) (fun _ => ?_)) <;> conv => whnf))
      exact rfl
    · have e : imagesY G p whole = dLL (imgs G.labels.length (okI G p whole) p.labels.length []) := by unfold imagesY; rw [if_pos ⟨he, fun h => h0 (by rw [h]; rfl)⟩]
      rw [e]
      have h8 : p.labels.length ≤ 8 := by
        unfold pErr at he
        split at he
        · cases he
        · rename_i hl
          exact (lErr_none hl).1
      have him := images_pure G hG p whole h8 hG10 hpe p.labels.length [] (by simp)
      have him2 : Pure C1 67 [dG G, dPt p, .nils, .bool whole] (fun y => y = dLL (imgs G.labels.length (okI G p whole) p.labels.length [])) := Sx.Pure.lax (.cons (.refl _) (.cons (.refl _) (.cons (.nils 1) (.cons (.refl _) .nil)))) him
      (conv => whnf)
      (repeat' ((first | refine ord_ok (by (conv => whnf); (repeat' ((first | refine call_eq rfl hr ?_ | refine call_eq rfl him2 ?_ | refine ify ?_ | refine ifn ?_ | refine i6 ?_ | refine ati ?_ | refine mst ?_ | refine rmd ?_ | refine ibo (fun _ => ?_) (fun _ => ?_)) <;> conv => whnf)); (all_goals (repeat' (first | exact trivial | exact rfl | refine And.intro ?_ ?_)))) ?_ | refine call_eq rfl hr ?_ | refine call_eq rfl him2 ?_ | refine ify ?_ | refine ifn ?_ | refine i6 ?_ | refine ati ?_ | refine mst ?_ | refine rmd ?_ | refine ibo (fun _ => ?_) (fun _ => ?_)) <;> conv => whnf))
      exact rfl
end Go.Proofs.YteigfapjiekdnaaGreatDoor
end

section
/- quick, plain: images are those of the document. -/
namespace Go.Gr
open Go.Proofs.YteigfapjiekdnaaGreatDoor
theorem turn_lt {a b : Int} (h : a ≤ b) : turn ⟨a, b⟩ = ⟨a, b⟩ := by unfold turn; simp only [Edg.mk.injEq]; omega
theorem turn_gt {a b : Int} (h : b ≤ a) : turn ⟨a, b⟩ = ⟨b, a⟩ := by unfold turn; simp only [Edg.mk.injEq]; omega
theorem okI_iff {G : Gr} {p : Pt} {whole : Bool} {l : List Int} {v : Int} : okI G p whole l v = true ↔ labelV G v = plOf p l.length ∧ v ∉ l ∧ ∀ k u, k < l.length → l[k]? = some u → okB G p whole l.length k u v = true := by
  constructor
  · intro h
    refine ⟨Decidable.byContradiction fun hn => ?_, okI_not h, fun k u _ hx => ?_⟩
    · rw [okI_label hn] at h; cases h
    · cases hb : okB G p whole l.length k u v with
      | true => rfl
      | false => rw [okI_at hx hb] at h; cases h
  · rintro ⟨h1, h2, h3⟩
    exact okI_yes h1 h2 h3
theorem okAll0_iff {ok : List Int → Int → Bool} {L : List Int} : okAll ok 0 L = true ↔ ∀ i v, L[i]? = some v → ok (L.take i) v = true := by
  simp only [okAll, List.all_eq_true, List.mem_range, Bool.or_eq_true, decide_eq_true_eq]
  constructor
  · intro h i v hx
    have := h i (List.getElem?_eq_some_iff.1 hx).1
    rw [hx] at this
    rcases this with h | h
    · omega
    · exact h
  · intro h i hi
    right
    rw [List.getElem?_eq_getElem hi]
    exact h i _ (List.getElem?_eq_getElem hi)
end Go.Gr
end

section
/- quick, plain: how many images there are (for QuickCounts). -/
namespace Go.Gr
/-! ### how many images there are -/
theorem mem_iterL (n : Nat) : ∀ (k : Nat) (L : List Int), L ∈ iterL n k [[]] ↔ L.length = k ∧ L.Nodup ∧ ∀ x ∈ L, 0 ≤ x ∧ x < (n : Int)
  | 0, L => by
    show L ∈ [[]] ↔ _
    rw [List.mem_singleton]
    constructor
    · rintro rfl; exact ⟨rfl, List.nodup_nil, by simp⟩
    · intro h; exact List.eq_nil_of_length_eq_zero h.1
  | k + 1, L => by
    rw [iterL_succ]
    simp only [stepL, List.mem_flatMap, List.mem_map, List.mem_filter, List.mem_range, Bool.not_eq_true', decide_eq_false_iff_not]
    constructor
    · rintro ⟨l, hl, v, ⟨hv, hn⟩, rfl⟩
      obtain ⟨h1, h2, h3⟩ := (mem_iterL n k l).1 hl
      refine ⟨by simp [h1], ?_, fun x hx => ?_⟩
      · rw [List.nodup_append]
        exact ⟨h2, by simp, fun a ha b hb => by rw [List.mem_singleton.1 hb]; exact fun e => hn (e ▸ ha)⟩
      · rcases List.mem_append.1 hx with hx | hx
        · exact h3 x hx
        · rw [List.mem_singleton.1 hx]; omega
    · rintro ⟨h1, h2, h3⟩
      have hne : L ≠ [] := fun e => by rw [e] at h1; cases h1
      obtain ⟨l, v, rfl⟩ : ∃ l v, L = l ++ [v] := ⟨L.dropLast, L.getLast hne, (List.dropLast_concat_getLast hne).symm⟩
      rw [List.nodup_append] at h2
      obtain ⟨g1, _, g3⟩ := h2
      have hv := h3 v (by simp)
      refine ⟨l, (mem_iterL n k l).2 ⟨by simpa using h1, g1, fun x hx => h3 x (by simp [hx])⟩, v.toNat, ⟨by omega, fun hm => ?_⟩, by rw [Int.toNat_of_nonneg hv.1]⟩
      rw [Int.toNat_of_nonneg hv.1] at hm
      exact g3 v hm v (by simp) rfl
theorem iterL_nodup (n : Nat) : ∀ (k : Nat), (iterL n k [[]]).Nodup
  | 0 => by simp [iterL]
  | k + 1 => by
    rw [iterL_succ]
    have ih := iterL_nodup n k
    have hl : ∀ l ∈ iterL n k [[]], l.length = k := fun l hl => iterL_len n k hl
    generalize iterL n k [[]] = X at ih hl
    unfold stepL
    rw [List.Nodup, List.pairwise_flatMap]
    refine ⟨fun l _ => ?_, ?_⟩
    · refine List.pairwise_map.2 (List.Pairwise.imp ?_ (List.nodup_range.filter _))
      intro u v huv e
      have := List.append_cancel_left e
      simp at this; omega
    · refine List.Pairwise.imp_of_mem ?_ ih
      intro a b ha hb hab x hx y hy e
      obtain ⟨u, _, rfl⟩ := List.mem_map.1 hx
      obtain ⟨v, _, rfl⟩ := List.mem_map.1 hy
      have := (List.append_inj e (by rw [hl a ha, hl b hb])).1
      exact hab this
end Go.Gr
end

section
/- quick, plain: images by their places; how many. -/
namespace Go.Gr
open Go.Proofs.YteigfapjiekdnaaGreatDoor
theorem sub_len {α : Type} [DecidableEq α] : ∀ {l m : List α}, l.Nodup → (∀ x ∈ l, x ∈ m) → l.length ≤ m.length
  | [], _, _, _ => Nat.zero_le _
  | x :: l, m, hn, hs => by
    have hx : x ∈ m := hs x (by simp)
    rw [List.nodup_cons] at hn
    have h := sub_len (m := m.erase x) hn.2 fun y hy => by
      have hne : y ≠ x := fun e => hn.1 (e ▸ hy)
      exact (List.mem_erase_of_ne hne).2 (hs y (by simp [hy]))
    rw [List.length_erase_of_mem hx] at h
    have := List.length_pos_of_mem hx
    rw [List.length_cons]; omega
theorem nodup_le {α : Type} [DecidableEq α] {l m : List α} (hn : l.Nodup) (hs : ∀ x ∈ l, x ∈ m) : l.length ≤ m.length := sub_len hn hs
def imgP (G : Gr) (p : Pt) (whole : Bool) : List (List Int) := imgs G.labels.length (okI G p whole) p.labels.length []
structure IsImg (G : Gr) (p : Pt) (whole : Bool) (L : List Int) : Prop where
  len : L.length = p.labels.length
  nodup : L.Nodup
  lt : ∀ x ∈ L, 0 ≤ x ∧ x < (G.labels.length : Int)
  label : ∀ i x, L[i]? = some x → labelV G x = plOf p i
  has : ∀ i j x y, i ≠ j → L[i]? = some x → L[j]? = some y → phOf p i j = true → hasG G x y = true
  only : whole = true → ∀ i j x y, i ≠ j → L[i]? = some x → L[j]? = some y → hasG G x y = true → phOf p i j = true
theorem turn_comm (a b : Int) : turn ⟨a, b⟩ = turn ⟨b, a⟩ := by unfold turn; simp only [Edg.mk.injEq]; omega
theorem phOf_comm (p : Pt) (i j : Nat) : phOf p i j = phOf p j i := by unfold phOf; rw [turn_comm]
theorem hasG_comm (G : Gr) (x y : Int) : hasG G x y = hasG G y x := by unfold hasG; rw [turn_comm]
theorem okB_iff {G : Gr} {p : Pt} {whole : Bool} {n i : Nat} {u v : Int} : okB G p whole n i u v = true ↔ (phOf p i n = true → hasG G u v = true) ∧ (whole = true → hasG G u v = true → phOf p i n = true) := by
  unfold okB
  cases phOf p i n <;> cases hasG G u v <;> cases whole <;> simp
theorem nodup_at {L : List Int} (h : L.Nodup) {i j : Nat} {x : Int} (hi : L[i]? = some x) (hj : L[j]? = some x) : i = j := by
  obtain ⟨h1, e1⟩ := List.getElem?_eq_some_iff.1 hi
  obtain ⟨h2, e2⟩ := List.getElem?_eq_some_iff.1 hj
  rcases Nat.lt_trichotomy i j with hl | hl | hl
  · exact absurd (e1.trans e2.symm) (List.pairwise_iff_getElem.1 h i j h1 h2 hl)
  · exact hl
  · exact absurd (e2.trans e1.symm) (List.pairwise_iff_getElem.1 h j i h2 h1 hl)
theorem mem_imgP {G : Gr} {p : Pt} {whole : Bool} {L : List Int} : L ∈ imgP G p whole ↔ IsImg G p whole L := by
  unfold imgP
  rw [imgs_eq (fun l v h => okI_not h), List.mem_filter, mem_iterL, List.length_nil, okAll0_iff]
  constructor
  · rintro ⟨⟨h1, h2, h3⟩, h4⟩
    have key : ∀ i v, L[i]? = some v → labelV G v = plOf p i ∧ ∀ k u, k < i → L[k]? = some u → okB G p whole i k u v = true := by
      intro i v hv
      have hil := (List.getElem?_eq_some_iff.1 hv).1
      have := okI_iff.1 (h4 i v hv)
      rw [List.length_take, Nat.min_eq_left (by omega)] at this
      exact ⟨this.1, fun k u hk hu => this.2.2 k u hk (by rw [List.getElem?_take, if_pos hk]; exact hu)⟩
    refine ⟨h1, h2, h3, fun i x hx => (key i x hx).1, fun i j x y hij hx hy hp => ?_, fun hw i j x y hij hx hy hp => ?_⟩
    · rcases Nat.lt_or_gt_of_ne hij with h | h
      · exact (okB_iff.1 ((key j y hy).2 i x h hx)).1 hp
      · rw [hasG_comm]
        exact (okB_iff.1 ((key i x hx).2 j y h hy)).1 (by rw [phOf_comm]; exact hp)
    · rcases Nat.lt_or_gt_of_ne hij with h | h
      · exact (okB_iff.1 ((key j y hy).2 i x h hx)).2 hw hp
      · rw [phOf_comm]
        exact (okB_iff.1 ((key i x hx).2 j y h hy)).2 hw (by rw [hasG_comm]; exact hp)
  · intro h
    refine ⟨⟨h.len, h.nodup, h.lt⟩, fun i v hv => ?_⟩
    have hil := (List.getElem?_eq_some_iff.1 hv).1
    rw [okI_iff, List.length_take, Nat.min_eq_left (by omega)]
    refine ⟨h.label i v hv, fun hm => ?_, fun k u hk hu => ?_⟩
    · obtain ⟨u, hu, e⟩ := List.mem_take_iff_getElem.1 hm
      have := nodup_at h.nodup hv (List.getElem?_eq_some_iff.2 ⟨by omega, e⟩)
      omega
    · rw [List.getElem?_take, if_pos hk] at hu
      exact okB_iff.2 ⟨fun hp => h.has k i u v (by omega) hu hv hp, fun hw hp => h.only hw k i u v (by omega) hu hv hp⟩
theorem imgP_nodup (G : Gr) (p : Pt) (whole : Bool) : (imgP G p whole).Nodup := by
  unfold imgP
  rw [imgs_eq (fun l v h => okI_not h)]
  exact (iterL_nodup _ _).filter _
theorem imgP_le {G : Gr} {p q : Pt} {w v : Bool} (h : ∀ L, IsImg G p w L → IsImg G q v L) : (imgP G p w).length ≤ (imgP G q v).length :=
  nodup_le (imgP_nodup G p w) fun L hL => mem_imgP.2 (h L (mem_imgP.1 hL))
theorem img_loose {G : Gr} {p : Pt} {w : Bool} {L : List Int} (h : IsImg G p w L) : IsImg G p false L := ⟨h.len, h.nodup, h.lt, h.label, h.has, fun e => by cases e⟩
def cntL (G : Gr) (x : Int) (v : Nat) : Nat := ((List.range v).filter fun v : Nat => decide (labelV G v = x)).length
theorem cntL_succ (G : Gr) (x : Int) (v : Nat) : cntL G x (v + 1) = cntL G x v + if labelV G v = x then 1 else 0 := by
  unfold cntL
  rw [List.range_succ, List.filter_append, List.length_append]
  congr 1
  by_cases h : labelV G v = x <;> simp [h]
theorem cntL_le (G : Gr) (x : Int) (v : Nat) : cntL G x v ≤ v := by
  unfold cntL
  exact Nat.le_trans (List.length_filter_le _ _) (by simp)
theorem ok_one (G : Gr) (x : Int) (w : Bool) (v : Int) : okI G ⟨[x], []⟩ w [] v = decide (labelV G v = x) := by simp [okI, fitV, plOf]
theorem imgP_one (G : Gr) (x : Int) (w : Bool) : imgP G ⟨[x], []⟩ w = ((List.range G.labels.length).filter fun v : Nat => decide (labelV G v = x)).map fun v : Nat => [(v : Int)] := by
  show imgs G.labels.length _ 1 [] = _
  simp only [imgs, ok_one, List.nil_append]
  generalize (List.range G.labels.length).filter _ = R
  induction R with
  | nil => rfl
  | cons v R ih => rw [List.flatMap_cons, ih]; rfl
theorem imgP_one_len (G : Gr) (x : Int) (w : Bool) : (imgP G ⟨[x], []⟩ w).length = cntL G x G.labels.length := by
  rw [imgP_one, List.length_map]; rfl
end Go.Gr
end

section
/- Patterns: edges put in order in their place by slices.SortFunc with pat.order (as Gre, with graph.order). -/
namespace Go.Proofs.YteigfapjiekdnaaGreatDoor
open Go.Sx Go.RowKit Go.Reg Go.Gr

open Go.Sort Go.Proofs in
set_option maxRecDepth 100000 in
set_option maxHeartbeats 1000000 in
theorem paorder_ok (x y : Edg) (W : World) : Calls Tryz.prog 74 #[valE x, valE y] W fun e w' => e = .returned (.int .i64 (cmpE x y)) ∧ ∃ q os', w' = grow (W.drewN q) os' := by
  unfold valE
  go_enter Tryz.func74, Tryz.ntmps74
  go_wp2_with fail
  refine wp_region_t [121] [0, 1, 0, 1, 2, 0, 1, 0, 1, 2, 6, 3, 0] [0, 2, 5, 7, 1, 3, 6, 8, 4, 9, 10, 11, 12] [0, 1, 0, 4, 15, 0, 32, 0, 128, 511, 1023, 2047, 4095] (by kernel_rfl) (by kernel_rfl) ?_
  go_wp2_with (first | (refine wpT_pure rfl rfl rfl rfl (fun _ _ => ?_)) | (refine wpT_look rfl rfl rfl (fun _ _ => ?_)))
  refine wpT_call rfl rfl rfl (fun K1 hK1 => ?_)
  go_wp2_with (go_at_call 121; refine (compare_ok _ _ _).mono ?_; rintro e w' ⟨rfl, rfl⟩)
  refine hK1 _ _ (Ext.refl _) ?_
  go_wp2_with (first | (refine wpT_pure rfl rfl rfl rfl (fun _ _ => ?_)) | (refine wpT_look rfl rfl rfl (fun _ _ => ?_)))
  refine wpT_call rfl rfl rfl (fun K2 hK2 => ?_)
  go_wp2_with (go_at_call 121; refine (compare_ok _ _ _).mono ?_; rintro e w' ⟨rfl, rfl⟩)
  refine hK2 _ _ (Ext.refl _) ?_
  go_wp2_with (first | (refine wpT_pure rfl rfl rfl rfl (fun _ _ => ?_)) | (refine wpT_look rfl rfl rfl (fun _ _ => ?_)))
  refine wpT_one rfl rfl rfl (fun K3 hK3 => ?_)
  go_wp2_with fail
  refine (or_ok _ _ _ _ (cell_new _ _ _ (by simp) rfl) (cell_new _ _ _ (by simp) rfl)).mono ?_
  rintro e w' ⟨rfl, rfl⟩
  refine hK3 _ _ ?_
  go_wp2_with (first | (refine wpT_pure rfl rfl rfl rfl (fun _ _ => ?_)) | (refine wpT_look rfl rfl rfl (fun _ _ => ?_)) | refine wpT_nil ?_)
  go_ret
  have e : orI (cmpI x.a y.a) (cmpI x.b y.b) = cmpE x y := by
    unfold orI cmpE
    by_cases h : cmpI x.a y.a = 0 <;> simp [h]
  exact ⟨by rw [← e]; rfl, 1, _, by rw [alloc_eq_grow, alloc_eq_grow, alloc_eq_grow, grow_grow, grow_grow]; rfl⟩

open Go.Sort in
theorem pasort_ok (v : Value) (l : List Edg) (w : World) (h : Sl 40 2 encE w v l) (hl : l.length ≤ 4294967296) :
    Calls Tryz.prog 81 #[v, .func (.func 74) #[] #[]] w fun e w' => e = .returned (.tuple #[]) ∧ ∃ out, Sl 40 2 encE w' v out ∧ out.Perm l ∧
      out.Pairwise (fun a b => ¬ cmpE b a < 0) ∧ Tch v.ownBlock.toList w w' := by
  rcases h.shape with ⟨rfl, rfl⟩ | ⟨g, cap, rfl, hc⟩
  · refine (AnyF.slices_SortFunc_none Tryz.sortE none 0 _ w).mono ?_
    rintro e w' ⟨rfl, rfl⟩
    exact ⟨rfl, [], h, List.Perm.refl _, List.Pairwise.nil, Tch.refl _ _⟩
  · refine (AnyQ.slices_SortFunc Tryz.sortE 2 Tryz.isAgg40 Tryz.sizeOf40 encE (fun _ => rfl) encE_one cmpE cmpE_swo 74 #[] g 0 cap l.toArray w
      (enters_of Tryz.func74 (by kernel_rfl) rfl) (fun m os dk hs x y => paorder_ok x y _) (h.holdsK encE_len (by decide)) (h.lt rfl) (by simp; omega)).mono ?_
    rintro e w' ⟨rfl, d, n, os, hp, hs, rfl⟩
    obtain ⟨hp1, hp2, hp3⟩ := hp
    have hd : d.size = l.length := by simpa using hp1
    obtain ⟨hS, hT⟩ := h.sorted encE_len (by decide) d hd n os
    refine ⟨rfl, d.toList, hS, ?_, ?_, hT⟩
    · have e1 : d.extract 0 l.toArray.size = d := by rw [← hp1]; exact Array.extract_size
      have e2 : l.toArray.extract 0 l.toArray.size = l.toArray := Array.extract_size
      rw [e1, e2] at hp3
      exact hp3
    · rw [List.pairwise_iff_getElem]
      intro i j hi hj hij
      have hj' : j < l.length := by rw [← hd]; simpa using hj
      have hi' : i < l.length := by omega
      have := hs i j (Nat.zero_le _) hij (by simpa using hj')
      rw [getElem!_pos d j (by omega), getElem!_pos d i (by omega)] at this
      simpa [ltOf] using this
theorem pasort_tsl (l : List Edg) (hl : l.length ≤ 4294967296) : TurnSl C1 81 40 2 (l.map dE) [.func (.func 74) [] []] (fun _ ds => ∃ out : List Edg, ds = out.map dE ∧ out.Perm l ∧ out.Pairwise (fun a b => ¬ cmpE b a < 0)) := by
  intro O w v css us hs hb hO hr hk hg hus
  obtain ⟨u, us', rfl, h1, h2⟩ := reps_inv hus
  obtain rfl := reps_inv0 h2
  obtain ⟨cs, r, rfl⟩ := h1
  simp only [RepC, RepCss] at r
  obtain ⟨_, _, rfl, rfl, rfl⟩ := r
  obtain rfl := edges_cs hr
  refine ⟨by kernel_rfl, (pasort_ok v l w (edges_sl.1 hs) hl).mono ?_⟩
  rintro e w' ⟨rfl, out, hs', hp, ho, ht⟩
  refine ⟨.tuple #[], .tuple [], _, out.map encE, rfl, ⟨out, rfl, hp, ho⟩, edges_sl.2 hs', edges_rep _ _ _, ?_, ⟨[.tuple #[]], by simp only [RepC, RepCss]; exact ⟨[], rfl, rfl⟩, rfl⟩, ht⟩
  intro x hx
  obtain ⟨e, _, rfl⟩ := List.mem_map.1 hx
  exact ⟨rfl, encE_one e⟩
end Go.Proofs.YteigfapjiekdnaaGreatDoor
end
