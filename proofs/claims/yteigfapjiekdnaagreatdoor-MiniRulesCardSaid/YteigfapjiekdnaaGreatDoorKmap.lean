/- Merged: Qig. -/
import Derived.Test.YteigfapjiekdnaaGreatDoorKmao
section
/- quick: Images. ref12: Images. -/
namespace Go.Gr
open Go.Proofs.YteigfapjiekdnaaGreatDoor
/-- one list more, by vertices below v -/
def stepV (l : List Int) (v : Nat) : List (List Int) := ((List.range v).filter fun v : Nat => !decide ((v : Int) ∈ l)).map fun v : Nat => l ++ [(v : Int)]
theorem stepV_succ (l : List Int) (v : Nat) : stepV l (v + 1) = stepV l v ++ if (v : Int) ∈ l then [] else [l ++ [(v : Int)]] := by
  unfold stepV
  rw [List.range_succ, List.filter_append, List.map_append]
  congr 1
  by_cases h : (v : Int) ∈ l <;> simp [h]
theorem stepL_take {n : Nat} {X : List (List Int)} {i : Nat} {l : List Int} (h : X[i]? = some l) : stepL n (X.take (i + 1)) = stepL n (X.take i) ++ stepV l n := by
  rw [List.take_add_one, h, stepL_append]
  simp [stepL, stepV]
theorem stepV_len (l : List Int) (v : Nat) : (stepV l v).length ≤ v := by
  unfold stepV
  rw [List.length_map]
  exact Nat.le_trans (List.length_filter_le _ _) (by simp)
theorem stepL_len (n : Nat) : ∀ X : List (List Int), (stepL n X).length ≤ X.length * n
  | [] => by simp [stepL]
  | l :: X => by
    have h1 := stepL_len n X
    have h2 := stepV_len l n
    have e : stepL n (l :: X) = stepV l n ++ stepL n X := rfl
    rw [e, List.length_append, List.length_cons, Nat.add_mul, Nat.one_mul]; omega
theorem iterL_count (n : Nat) : ∀ k : Nat, (iterL n k [[]]).length ≤ n ^ k
  | 0 => by simp [iterL]
  | k + 1 => by
    rw [iterL_succ]
    have h1 := stepL_len n (iterL n k [[]])
    have h2 := Nat.mul_le_mul_right n (iterL_count n k)
    rw [Nat.pow_succ]; omega
theorem iterL_mem {n : Nat} : ∀ {k : Nat} {L : List Int}, L ∈ iterL n k [[]] → L.Nodup ∧ ∀ x ∈ L, 0 ≤ x ∧ x < n
  | 0, L, h => by
    rw [List.mem_singleton.1 h]
    exact ⟨List.nodup_nil, fun x hx => (List.not_mem_nil hx).elim⟩
  | k + 1, L, h => by
    rw [iterL_succ] at h
    simp only [stepL, List.mem_flatMap, List.mem_map, List.mem_filter, List.mem_range, Bool.not_eq_true', decide_eq_false_iff_not] at h
    obtain ⟨l, hl, v, ⟨hv, hn⟩, rfl⟩ := h
    obtain ⟨h1, h2⟩ := iterL_mem hl
    refine ⟨?_, fun x hx => ?_⟩
    · rw [List.nodup_append]
      exact ⟨h1, by simp, fun a ha b hb => by rw [List.mem_singleton.1 hb]; exact fun e => hn (e ▸ ha)⟩
    · rcases List.mem_append.1 hx with hx | hx
      · exact h2 x hx
      · rw [List.mem_singleton.1 hx]; omega
/-- tests, one behind the other -/
def okIv (b : Bool) (d : Nat → Bool) : Nat → Bool
  | 0 => b
  | u + 1 => okIv b d u && d u
def okN (c : Nat → Bool) (d : Nat → Nat → Bool) : Nat → Bool
  | 0 => true
  | v + 1 => okIv (okN c d v && c v) (fun u => d u v) v
theorem okIv_iff {b : Bool} {d : Nat → Bool} : ∀ {u : Nat}, okIv b d u = true ↔ b = true ∧ ∀ k, k < u → d k = true
  | 0 => ⟨fun h => ⟨h, fun k hk => absurd hk (Nat.not_lt_zero k)⟩, fun h => h.1⟩
  | u + 1 => by
    simp only [okIv, Bool.and_eq_true, okIv_iff (u := u)]
    constructor
    · rintro ⟨⟨h1, h2⟩, h3⟩
      refine ⟨h1, fun k hk => ?_⟩
      rcases Nat.lt_or_ge k u with h | h
      · exact h2 k h
      · have : k = u := by omega
        subst this; exact h3
    · rintro ⟨h1, h2⟩
      exact ⟨⟨h1, fun k hk => h2 k (by omega)⟩, h2 u (by omega)⟩
theorem okN_iff {c : Nat → Bool} {d : Nat → Nat → Bool} : ∀ {v : Nat}, okN c d v = true ↔ ∀ k, k < v → c k = true ∧ ∀ u, u < k → d u k = true
  | 0 => ⟨fun _ k hk => absurd hk (Nat.not_lt_zero k), fun _ => rfl⟩
  | v + 1 => by
    simp only [okN, okIv_iff, Bool.and_eq_true, okN_iff (v := v)]
    constructor
    · rintro ⟨⟨h1, h2⟩, h3⟩ k hk
      rcases Nat.lt_or_ge k v with h | h
      · exact h1 k h
      · have : k = v := by omega
        subst this; exact ⟨h2, h3⟩
    · intro h
      exact ⟨⟨fun k hk => h k (by omega), (h v (by omega)).1⟩, (h v (by omega)).2⟩
def cL (G : Gr) (p : Pt) (L : List Int) (v : Nat) : Bool := decide (labelV G ((L[v]?).getD 0) = plOf p v)
def dLt (E : List Edg) (p : Pt) (whole : Bool) (L : List Int) (u v : Nat) : Bool := (hasR (madeE E L) u v || !hasR p.edges u v) && (hasR p.edges u v || !hasR (madeE E L) u v || !whole)
/-- is a list an image, by the document? -/
def okL (G : Gr) (p : Pt) (whole : Bool) (L : List Int) : Bool := okN (cL G p L) (dLt G.edges p whole L) p.labels.length
end Go.Gr
namespace Go.Proofs.YteigfapjiekdnaaGreatDoor
open Go.Sx Go.RowKit Go.Reg Go.Gr

set_option maxRecDepth 100000
theorem rightP_some {p : Pt} {c : Int} {i : Nat} (h : pErr p = some (c, i)) : ∃ s, rightP p = dF c i s := by
  unfold pErr at h
  unfold rightP
  split at h
  · rename_i x hl
    cases h
    rw [hl]
    exact ⟨_, rfl⟩
  · rename_i hl
    rw [hl]
    simp only
    rw [h]
    exact ⟨_, rfl⟩
def imagesY (G : Gr) (p : Pt) (whole : Bool) : Da := if pErr p = none ∧ p.labels ≠ [] then dLL (imgs G.labels.length (okI G p whole) p.labels.length []) else .nils
def pl_qiI : List (Nat × Plan) := []
def G_qiI : List FuncId := [31, 67]
theorem cok_qiI : codeOk Tryz.prog G_qiI pl_qiI (Tryz.f28.body.getD .skip) = true := by kernel_rfl
theorem run_qiI (vs : Array Value) (w : World) : (callFunc 28 vs).run C1.P w = .ok (.enter 28 vs) w := by kernel_rfl
theorem qimages_pure (G : Gr) (hG : G.Ok) (p : Pt) (whole : Bool) (hG10 : G.labels.length ≤ 10) (hpl : p.labels.length ≤ 9000000000000000000) (hpe : p.edges.length ≤ 100000) : Pure C1 28 [dG G, dPt p, .bool whole] (fun y => y = imagesY G p whole) := by
  have hdp : (p.labels.map dI).length = p.labels.length := List.length_map _
  have hr := pright_pure p (by omega) (by omega)
  refine pure_of c1_ok (pl := pl_qiI) (G := G_qiI) Tryz.func28 rfl Tryz.ntmps28 run_qiI cok_qiI (by simp) ?_
  cases he : pErr p with
  | some x =>
    obtain ⟨c, i⟩ := x
    obtain ⟨s, hs⟩ := rightP_some he
    rw [hs] at hr
    have e : imagesY G p whole = .nils := by unfold imagesY; rw [if_neg (fun h => by rw [he] at h; cases h.1)]
    rw [e]
    (conv => whnf)
    (repeat' ((first | refine ord_ok (by (conv => whnf); (repeat' ((first | refine call_eq rfl hr ?_ | refine ify ?_ | refine ifn ?_ | refine i6 ?_ | refine ati ?_ | refine mst ?_ | refine rmd ?_ | refine ibo (fun _ => ?_) (fun _ => ?_)) <;> conv => whnf)); (all_goals (repeat' (first | exact trivial | exact rfl | refine And.intro ?_ ?_)))) ?_ | refine call_eq rfl hr ?_ | refine ify ?_ | refine ifn ?_ | refine i6 ?_ | refine ati ?_ | refine mst ?_ | refine rmd ?_ | refine ibo (fun _ => ?_) (fun _ => ?_)) <;> conv => whnf))
    exact rfl
  | none =>
    rw [rightP_none he] at hr
    by_cases h0 : p.labels.length = 0
    · have e : imagesY G p whole = .nils := by unfold imagesY; rw [if_neg (fun h => h.2 (List.eq_nil_of_length_eq_zero h0))]
      rw [e]
      (conv => whnf)
      (repeat' ((first | refine ord_ok (by (conv => whnf); (repeat' ((first | refine call_eq rfl hr ?_ | refine ify ?_ | refine ifn ?_ | refine i6 ?_ | refine ati ?_ | refine mst ?_ | refine rmd ?_ | refine ibo (fun _ => ?_) (fun _ => ?_)) <;> conv => whnf)); (all_goals (repeat' (first | exact trivial | exact rfl | refine And.intro ?_ ?_)))) ?_ | refine call_eq rfl hr ?_ | refine ify ?_ | refine ifn ?_ | refine i6 ?_ | refine ati ?_ | refine mst ?_ | refine rmd ?_ | refine ibo (fun _ => ?_) (fun _ => ?_)) <;> conv => whnf))
      exact rfl
    · have e : imagesY G p whole = dLL (imgs G.labels.length (okI G p whole) p.labels.length []) := by unfold imagesY; rw [if_pos ⟨he, fun h => h0 (by rw [h]; rfl)⟩]
      rw [e]
      have h8 : p.labels.length ≤ 8 := by
        unfold pErr at he
        split at he
        · cases he
        · rename_i hl
          exact (lErr_none hl).1
      have him := images_pure G hG p whole h8 hG10 hpe p.labels.length [] (by simp)
      have him2 : Pure C1 67 [dG G, dPt p, .nils, .bool whole] (fun y => y = dLL (imgs G.labels.length (okI G p whole) p.labels.length [])) := Sx.Pure.lax (.cons (.refl _) (.cons (.refl _) (.cons (.nils 1) (.cons (.refl _) .nil)))) him
      (conv => whnf)
      (repeat' ((first | refine ord_ok (by (conv => whnf); (repeat' ((first | refine call_eq rfl hr ?_ | refine call_eq rfl him2 ?_ | refine ify ?_ | refine ifn ?_ | refine i6 ?_ | refine ati ?_ | refine mst ?_ | refine rmd ?_ | refine ibo (fun _ => ?_) (fun _ => ?_)) <;> conv => whnf)); (all_goals (repeat' (first | exact trivial | exact rfl | refine And.intro ?_ ?_)))) ?_ | refine call_eq rfl hr ?_ | refine call_eq rfl him2 ?_ | refine ify ?_ | refine ifn ?_ | refine i6 ?_ | refine ati ?_ | refine mst ?_ | refine rmd ?_ | refine ibo (fun _ => ?_) (fun _ => ?_)) <;> conv => whnf))
      exact rfl
def pl_r12i : List (Nat × Plan) := [(19, .split 5 6 (.leaf [1, 0, 0, 0, 1, 2, 6, 3] [1, 2, 3, 0, 4, 5, 6, 7] [0, 0, 0, 6, 14, 31, 63, 127]) (.leaf [1, 0, 0, 0, 1, 2, 6, 3] [1, 2, 3, 0, 4, 6, 5, 7] [0, 0, 0, 6, 14, 95, 0, 127])),
  (24, .leaf [0, 0, 0, 1, 0, 0, 1, 0, 1, 0, 0, 1, 0, 0, 0] [0, 1, 2, 4, 7, 9, 3, 5, 6, 8, 10, 11, 12, 13, 14] [0, 1, 3, 7, 3, 31, 63, 3, 131, 3, 899, 1923, 4095, 8191, 16383]),
  (28, .leaf [1, 0, 0, 2, 1, 0, 0, 2, 0, 0] [1, 2, 5, 6, 0, 4, 3, 7, 8, 9] [0, 0, 0, 7, 0, 0, 0, 127, 255, 511])]
def G_r12i : List FuncId := [17, 64, 65]
theorem cok_r12i : codeOk Tryz.prog G_r12i pl_r12i (Tryz.f22.body.getD .skip) = true := by kernel_rfl
theorem run_r12i (vs : Array Value) (w : World) : (callFunc 22 vs).run C1.P w = .ok (.enter 22 vs) w := by kernel_rfl
set_option maxHeartbeats 8000000 in
theorem rimages_pure (G : Gr) (p : Pt) (whole : Bool) (hG10 : G.labels.length ≤ 10) (hGe : G.edges.length ≤ 100000) (h8 : p.labels.length ≤ 8) (h0 : 0 < p.labels.length) (hpe : p.edges.length ≤ 100000) : Pure C1 22 [dM G.labels G.edges, dPt p, .bool whole] (fun y => y = dLL ((iterL G.labels.length p.labels.length [[]]).filter (okL G p whole))) := by
  have hdp : (p.labels.map dI).length = p.labels.length := List.length_map _
  have hdG : (G.labels.map dI).length = G.labels.length := List.length_map _
  refine pure_of c1_ok (pl := pl_r12i) (G := G_r12i) Tryz.func22 rfl Tryz.ntmps22 run_r12i cok_r12i (by simp) ?_
  ((conv => whnf); repeat' ((first | refine odw ?_ | refine ify ?_ | refine ifn ?_ | refine i6 ?_ | refine ati ?_ | refine mst ?_ | refine rmd ?_ | refine ibo (fun _ => ?_) (fun _ => ?_)) <;> conv => whnf))
  refine op_again c1_ok (G := []) (.frz 20 rfl (.refl _ _)) (.inr rfl) ?_
  ((conv => whnf); repeat' ((first | refine odw ?_ | refine ify ?_ | refine ifn ?_ | refine i6 ?_ | refine ati ?_ | refine mst ?_ | refine rmd ?_ | refine ibo (fun _ => ?_) (fun _ => ?_)) <;> conv => whnf))
  refine loop_lo (ι := Nat) (fun k => k ≤ p.labels.length) (fun k => [(8, .d (.int .i64 k)), (7, .d (dLL (iterL G.labels.length k [[]]))), (4, .own 4), (3, .own 3), (2, .d (.bool whole))]) (fun _ => [(3, .cells 27 [.d (dIs G.labels), .d (dEs G.edges)]), (4, .cells 47 [.d (dIs p.labels), .d (dEs p.edges)])]) (fun k => p.labels.length - k) 0 (fun _ => rfl) (Nat.zero_le _) (.frz 21 rfl (.refl _ _)) ⟨rfl, rfl, rfl, rfl, rfl, trivial⟩ ⟨rfl, rfl, trivial⟩ ?_
  intro k hk
  refine sxCode_sound c1_ok (G := G_r12i) (pl := pl_r12i) _ _ _ _ (by kernel_rfl) ?_
  by_cases hkl : k < p.labels.length
  · have hXl := iterL_count G.labels.length k
    have hXp := pow_le8 hG10 (show k ≤ 8 by omega)
    have hsu := iterL_succ G.labels.length k [[]]
    have hXn : ∀ L ∈ iterL G.labels.length k [[]], L.length = k := fun L hL => iterL_len _ _ hL
    generalize iterL G.labels.length k [[]] = X at hXl hsu hXn ⊢
    have hdX : (X.map dIs).length = X.length := List.length_map _
    ((conv => whnf); repeat' ((first | refine odw ?_ | refine ify ?_ | refine ifn ?_ | refine i6 ?_ | refine ati ?_ | refine mst ?_ | refine rmd ?_ | refine ibo (fun _ => ?_) (fun _ => ?_)) <;> conv => whnf))
    refine loop_lo (ι := Nat) (fun i => i ≤ X.length) (fun i => [(10, .d (.int .i64 i)), (9, .own 300), (8, .d (.int .i64 k)), (7, .d (dLL X)), (4, .own 4), (3, .own 3), (2, .d (.bool whole))]) (fun i => [(3, .cells 27 [.d (dIs G.labels), .d (dEs G.edges)]), (4, .cells 47 [.d (dIs p.labels), .d (dEs p.edges)]), (300, .slice 22 1 ((stepL G.labels.length (X.take i)).map dIs))]) (fun i => X.length - i) 0 (fun _ => rfl) (Nat.zero_le _) (.own 9 300 22 1 rfl rfl (.refl _ _)) ⟨rfl, rfl, rfl, rfl, rfl, rfl, rfl, trivial⟩ ⟨rfl, rfl, rfl, trivial⟩ ?_
    intro i hi
    refine sxCode_sound c1_ok (G := G_r12i) (pl := pl_r12i) _ _ _ _ (by kernel_rfl) ?_
    by_cases hil : i < X.length
    · have hx := List.getElem?_eq_getElem hil
      generalize X[i] = l at hx
      have hxd : (X.map dIs)[i]? = some (dIs l) := by rw [List.getElem?_map, hx]; rfl
      have hsl := stepL_len G.labels.length (X.take i)
      have hmul : (X.take i).length * G.labels.length ≤ 100000000 * 10 := Nat.mul_le_mul (by rw [List.length_take]; omega) hG10
      ((conv => whnf); repeat' ((first | refine odw ?_ | refine ify ?_ | refine ifn ?_ | refine i6 ?_ | refine ati ?_ | refine mst ?_ | refine rmd ?_ | refine ibo (fun _ => ?_) (fun _ => ?_)) <;> conv => whnf))
      refine loop_lo (ι := Nat) (fun v => v ≤ G.labels.length) (fun v => [(11, .d (.int .i64 v)), (10, .d (.int .i64 i)), (9, .own 300), (8, .d (.int .i64 k)), (7, .d (dLL X)), (4, .own 4), (3, .own 3), (2, .d (.bool whole))]) (fun v => [(3, .cells 27 [.d (dIs G.labels), .d (dEs G.edges)]), (4, .cells 47 [.d (dIs p.labels), .d (dEs p.edges)]), (300, .slice 22 1 ((stepL G.labels.length (X.take i) ++ stepV l v).map dIs))]) (fun v => G.labels.length - v) 0 (fun _ => rfl) (Nat.zero_le _) (.refl _ _) ⟨rfl, rfl, rfl, rfl, rfl, rfl, rfl, rfl, trivial⟩ ⟨rfl, rfl, by rw [show stepV l 0 = [] from rfl, List.append_nil]; rfl, trivial⟩ ?_
      intro v hv
      refine sxCode_sound c1_ok (G := G_r12i) (pl := pl_r12i) _ _ _ _ (by kernel_rfl) ?_
      by_cases hvl : v < G.labels.length
      · have hh := has06_pure l v
        have hvs := stepV_len l v
        have hss := stepV_succ l v
        have hol : ((stepL G.labels.length (X.take i) ++ stepV l v).map dIs).length ≤ 2000000000 := by rw [List.length_map, List.length_append]; omega
        by_cases hm : (v : Int) ∈ l
        · rw [decide_eq_true hm] at hh
          rw [if_pos hm, List.append_nil] at hss
          (conv => whnf)
          (repeat' ((first | refine ord_ok (by (conv => whnf); (repeat' ((first | refine at_da hxd rfl ?_ | refine call_eqb tab rfl hh rfl ?_ | refine ify ?_ | refine ifn ?_ | refine i6 ?_ | refine ati ?_ | refine mst ?_ | refine rmd ?_ | refine ibo (fun _ => ?_) (fun _ => ?_)) <;> conv => whnf)); (all_goals (repeat' (first | exact trivial | exact rfl | refine And.intro ?_ ?_)))) ?_ | refine at_da hxd rfl ?_ | refine call_eqb tab rfl hh rfl ?_ | refine ify ?_ | refine ifn ?_ | refine i6 ?_ | refine ati ?_ | refine mst ?_ | refine rmd ?_ | refine ibo (fun _ => ?_) (fun _ => ?_)) <;> conv => whnf))
          exact ⟨v + 1, _, _, by omega, .refl _ _, ⟨rfl, rfl, rfl, rfl, rfl, rfl, rfl, rfl, trivial⟩, ⟨rfl, rfl, slice_is (by rw [hss]), trivial⟩, by omega⟩
        · rw [decide_eq_false hm] at hh
          rw [if_neg hm] at hss
          have hll := hXn l (List.mem_of_getElem? hx)
          have hdl : (l.map dI).length = l.length := List.length_map _
          (conv => whnf)
          (repeat' ((first | refine ord_ok (by (conv => whnf); (repeat' ((first | refine at_da hxd rfl ?_ | refine call_eqb tab rfl hh rfl ?_ | refine ify ?_ | refine ifn ?_ | refine i6 ?_ | refine ati ?_ | refine mst ?_ | refine rmd ?_ | refine ibo (fun _ => ?_) (fun _ => ?_)) <;> conv => whnf)); (all_goals (repeat' (first | exact trivial | exact rfl | refine And.intro ?_ ?_)))) ?_ | refine at_da hxd rfl ?_ | refine call_eqb tab rfl hh rfl ?_ | refine ify ?_ | refine ifn ?_ | refine i6 ?_ | refine ati ?_ | refine mst ?_ | refine rmd ?_ | refine ibo (fun _ => ?_) (fun _ => ?_)) <;> conv => whnf))
          refine op_again c1_ok (G := []) (.frz 50 rfl (.refl _ _)) (.inr rfl) ?_
          ((conv => whnf); repeat' ((first | refine odw ?_ | refine ify ?_ | refine ifn ?_ | refine i6 ?_ | refine ati ?_ | refine mst ?_ | refine rmd ?_ | refine ibo (fun _ => ?_) (fun _ => ?_)) <;> conv => whnf))
          refine ⟨v + 1, _, _, by omega, .refl _ _, ⟨rfl, rfl, rfl, rfl, rfl, rfl, rfl, rfl, trivial⟩, ⟨rfl, rfl, slice_is ?_, trivial⟩, by omega⟩
          rw [hss]; simp [dIs, dI]
      · have hve : v = G.labels.length := by omega
        subst hve
        ((conv => whnf); repeat' ((first | refine odw ?_ | refine ify ?_ | refine ifn ?_ | refine i6 ?_ | refine ati ?_ | refine mst ?_ | refine rmd ?_ | refine ibo (fun _ => ?_) (fun _ => ?_)) <;> conv => whnf))
        refine ⟨i + 1, _, _, by omega, .refl _ _, ⟨rfl, rfl, rfl, rfl, rfl, rfl, rfl, trivial⟩, ⟨rfl, rfl, slice_is (by rw [stepL_take hx]), trivial⟩, by omega⟩
    · have hie : i = X.length := by omega
      subst hie
      rw [List.take_length]
      ((conv => whnf); repeat' ((first | refine odw ?_ | refine ify ?_ | refine ifn ?_ | refine i6 ?_ | refine ati ?_ | refine mst ?_ | refine rmd ?_ | refine ibo (fun _ => ?_) (fun _ => ?_)) <;> conv => whnf))
      refine ⟨k + 1, _, _, by omega, .frz 300 rfl (.refl _ _), ⟨rfl, by rw [hsu]; rfl, rfl, rfl, rfl, trivial⟩, ⟨rfl, rfl, trivial⟩, by omega⟩
  · have hke : k = p.labels.length := by omega
    subst hke
    have hXl := iterL_count G.labels.length p.labels.length
    have hXp := pow_le8 hG10 h8
    have hXn : ∀ L ∈ iterL G.labels.length p.labels.length [[]], L.length = p.labels.length := fun L hL => iterL_len _ _ hL
    have hXm : ∀ L ∈ iterL G.labels.length p.labels.length [[]], ∀ x ∈ L, 0 ≤ x ∧ x < G.labels.length := fun L hL => (iterL_mem hL).2
    generalize iterL G.labels.length p.labels.length [[]] = X at hXl hXn hXm ⊢
    have hdX : (X.map dIs).length = X.length := List.length_map _
    ((conv => whnf); repeat' ((first | refine odw ?_ | refine ify ?_ | refine ifn ?_ | refine i6 ?_ | refine ati ?_ | refine mst ?_ | refine rmd ?_ | refine ibo (fun _ => ?_) (fun _ => ?_)) <;> conv => whnf))
    refine loop_lo (ι := Nat) (fun i => i ≤ X.length) (fun i => [(13, .d (.int .i64 i)), (12, .own 301), (7, .d (dLL X)), (4, .own 4), (3, .own 3), (2, .d (.bool whole))]) (fun i => [(3, .cells 27 [.d (dIs G.labels), .d (dEs G.edges)]), (4, .cells 47 [.d (dIs p.labels), .d (dEs p.edges)]), (301, .slice 22 1 (((X.take i).filter (okL G p whole)).map dIs))]) (fun i => X.length - i) 0 (fun _ => rfl) (Nat.zero_le _) (.own 12 301 22 1 rfl rfl (.refl _ _)) ⟨rfl, rfl, rfl, rfl, rfl, rfl, trivial⟩ ⟨rfl, rfl, rfl, trivial⟩ ?_
    intro i hi
    refine sxCode_sound c1_ok (G := G_r12i) (pl := pl_r12i) _ _ _ _ (by kernel_rfl) ?_
    by_cases hil : i < X.length
    · have hx := List.getElem?_eq_getElem hil
      generalize X[i] = L at hx
      have hxd : (X.map dIs)[i]? = some (dIs L) := by rw [List.getElem?_map, hx]; rfl
      have hLm := List.mem_of_getElem? hx
      have hLn := hXn L hLm
      have hwh := whole_pure G L (by omega) (by omega) (hXm L hLm)
      have hfl : ((X.take i).filter (okL G p whole)).length ≤ i := by have := List.length_filter_le (okL G p whole) (X.take i); rw [List.length_take] at this; omega
      have hfm : (((X.take i).filter (okL G p whole)).map dIs).length ≤ 100000000 := by rw [List.length_map]; omega
      have htk : (X.take (i + 1)).filter (okL G p whole) = (X.take i).filter (okL G p whole) ++ if okL G p whole L then [L] else [] := by
        rw [List.take_add_one, hx, List.filter_append]
        congr 1
        by_cases h : okL G p whole L <;> simp [h]
      have hmE : (madeE G.edges L).length ≤ 1000000 := by
        have := rowsF_len (pairF G.edges L) L.length L.length
        have h2 : L.length * L.length ≤ 8 * 8 := Nat.mul_le_mul (by omega) (by omega)
        unfold madeE; omega
      (conv => whnf)
      (repeat' ((first | refine ord_ok (by (conv => whnf); (repeat' ((first | refine at_da hxd rfl ?_ | refine call_eq rfl hwh ?_ | refine ify ?_ | refine ifn ?_ | refine i6 ?_ | refine ati ?_ | refine mst ?_ | refine rmd ?_ | refine ibo (fun _ => ?_) (fun _ => ?_)) <;> conv => whnf)); (all_goals (repeat' (first | exact trivial | exact rfl | refine And.intro ?_ ?_)))) ?_ | refine at_da hxd rfl ?_ | refine call_eq rfl hwh ?_ | refine ify ?_ | refine ifn ?_ | refine i6 ?_ | refine ati ?_ | refine mst ?_ | refine rmd ?_ | refine ibo (fun _ => ?_) (fun _ => ?_)) <;> conv => whnf))
      refine loop_lo (ι := Nat) (fun v => v ≤ p.labels.length) (fun v => [(16, .d (.int .i64 v)), (15, .d (.bool (okN (cL G p L) (dLt G.edges p whole L) v))), (14, .own 14), (13, .d (.int .i64 i)), (12, .own 301), (7, .d (dLL X)), (4, .own 4), (3, .own 3), (2, .d (.bool whole))]) (fun v => [(3, .cells 27 [.d (dIs G.labels), .d (dEs G.edges)]), (4, .cells 47 [.d (dIs p.labels), .d (dEs p.edges)]), (14, .cells 47 [.d (dIs (L.map (labelV G))), .d (dEs (madeE G.edges L))]), (301, .slice 22 1 (((X.take i).filter (okL G p whole)).map dIs))]) (fun v => p.labels.length - v) 0 (fun _ => rfl) (Nat.zero_le _) (.lax 15 rfl (.prop _ (decide_eq_true (by omega))) (.refl _ _)) ⟨rfl, rfl, rfl, rfl, rfl, rfl, rfl, rfl, rfl, trivial⟩ ⟨rfl, rfl, rfl, rfl, trivial⟩ ?_
      intro v hv
      refine sxCode_sound c1_ok (G := G_r12i) (pl := pl_r12i) _ _ _ _ (by kernel_rfl) ?_
      by_cases hvl : v < p.labels.length
      · have hLx := List.getElem?_eq_getElem (l := L) (i := v) (by omega)
        have hlx : ((L.map (labelV G)).map dI)[v]? = some (.int .i64 (labelV G ((L[v]?).getD 0))) := by rw [List.getElem?_map, List.getElem?_map, hLx]; rfl
        have hpx : (p.labels.map dI)[v]? = some (.int .i64 (plOf p v)) := by
          rw [List.getElem?_map, List.getElem?_eq_getElem hvl]
          unfold plOf
          rw [List.getElem?_eq_getElem hvl]; rfl
        cases hb : okN (cL G p L) (dLt G.edges p whole L) v with
        | false =>
          (conv => whnf)
          (repeat' ((first | refine ord_ok (by (conv => whnf); (repeat' ((first | refine at_da hlx rfl ?_ | refine at_da hpx rfl ?_ | refine ify ?_ | refine ifn ?_ | refine i6 ?_ | refine ati ?_ | refine mst ?_ | refine rmd ?_ | refine ibo (fun _ => ?_) (fun _ => ?_)) <;> conv => whnf)); (all_goals (repeat' (first | exact trivial | exact rfl | refine And.intro ?_ ?_)))) ?_ | refine at_da hlx rfl ?_ | refine at_da hpx rfl ?_ | refine ify ?_ | refine ifn ?_ | refine i6 ?_ | refine ati ?_ | refine mst ?_ | refine rmd ?_ | refine ibo (fun _ => ?_) (fun _ => ?_)) <;> conv => whnf))
          refine loop_lo (ι := Nat) (fun u => u ≤ v) (fun u => [(17, .d (.int .i64 u)), (16, .d (.int .i64 v)), (15, .d (.bool (okIv (okN (cL G p L) (dLt G.edges p whole L) v && cL G p L v) (fun u => dLt G.edges p whole L u v) u))), (14, .own 14), (13, .d (.int .i64 i)), (12, .own 301), (7, .d (dLL X)), (4, .own 4), (3, .own 3), (2, .d (.bool whole))]) (fun u => [(3, .cells 27 [.d (dIs G.labels), .d (dEs G.edges)]), (4, .cells 47 [.d (dIs p.labels), .d (dEs p.edges)]), (14, .cells 47 [.d (dIs (L.map (labelV G))), .d (dEs (madeE G.edges L))]), (301, .slice 22 1 (((X.take i).filter (okL G p whole)).map dIs))]) (fun u => v - u) 0 (fun _ => rfl) (Nat.zero_le _) (.refl _ _) ⟨rfl, rfl, by show _ = Dat.d (.bool (okN _ _ _ && _)); rw [hb]; rfl, rfl, rfl, rfl, rfl, rfl, rfl, rfl, trivial⟩ ⟨rfl, rfl, rfl, rfl, trivial⟩ ?_
          intro u hu
          refine sxCode_sound c1_ok (G := G_r12i) (pl := pl_r12i) _ _ _ _ (by kernel_rfl) ?_
          by_cases hul : u < v
          · have h1 := rhas_pure ⟨L.map (labelV G), madeE G.edges L⟩ u v (by simp only; omega)
            have h2 := rhas_pure p u v (by omega)
            have hd : dLt G.edges p whole L u v = ((hasR (madeE G.edges L) u v || !hasR p.edges u v) && (hasR p.edges u v || !hasR (madeE G.edges L) u v || !whole)) := rfl
            have hst : okIv (okN (cL G p L) (dLt G.edges p whole L) v && cL G p L v) (fun u => dLt G.edges p whole L u v) (u + 1) = (okIv (okN (cL G p L) (dLt G.edges p whole L) v && cL G p L v) (fun u => dLt G.edges p whole L u v) u && dLt G.edges p whole L u v) := rfl
            rw [hd] at hst
            cases hb : okIv (okN (cL G p L) (dLt G.edges p whole L) v && cL G p L v) (fun u => dLt G.edges p whole L u v) u <;> cases his : hasR (madeE G.edges L) u v <;> cases hwa : hasR p.edges u v <;> cases hwo : whole <;> rw [hb, his, hwa, hwo] at hst <;> rw [his] at h1 <;> rw [hwa] at h2 <;> (conv => whnf) <;> (repeat' ((first | refine ord_ok (by (conv => whnf); (repeat' ((first | refine call_eq rfl h1 ?_ | refine call_eq rfl h2 ?_ | refine ify ?_ | refine ifn ?_ | refine i6 ?_ | refine ati ?_ | refine mst ?_ | refine rmd ?_ | refine ibo (fun _ => ?_) (fun _ => ?_)) <;> conv => whnf)); (all_goals (repeat' (first | exact trivial | exact rfl | refine And.intro ?_ ?_)))) ?_ | refine call_eq rfl h1 ?_ | refine call_eq rfl h2 ?_ | refine ify ?_ | refine ifn ?_ | refine i6 ?_ | refine ati ?_ | refine mst ?_ | refine rmd ?_ | refine ibo (fun _ => ?_) (fun _ => ?_)) <;> conv => whnf))
            all_goals exact ⟨u + 1, _, _, by omega, .refl _ _, ⟨rfl, rfl, by rw [hst]; rfl, rfl, rfl, rfl, rfl, rfl, rfl, rfl, trivial⟩, ⟨rfl, rfl, rfl, rfl, trivial⟩, by omega⟩
          · have hue : u = v := by omega
            subst hue
            ((conv => whnf); repeat' ((first | refine odw ?_ | refine ify ?_ | refine ifn ?_ | refine i6 ?_ | refine ati ?_ | refine mst ?_ | refine rmd ?_ | refine ibo (fun _ => ?_) (fun _ => ?_)) <;> conv => whnf))
            exact ⟨u + 1, _, _, by omega, .refl _ _, ⟨rfl, rfl, rfl, rfl, rfl, rfl, rfl, rfl, rfl, trivial⟩, ⟨rfl, rfl, rfl, rfl, trivial⟩, by omega⟩
        | true =>
          (conv => whnf)
          (repeat' ((first | refine ord_ok (by (conv => whnf); (repeat' ((first | refine at_da hlx rfl ?_ | refine at_da hpx rfl ?_ | refine ify ?_ | refine ifn ?_ | refine i6 ?_ | refine ati ?_ | refine mst ?_ | refine rmd ?_ | refine ibo (fun _ => ?_) (fun _ => ?_)) <;> conv => whnf)); (all_goals (repeat' (first | exact trivial | exact rfl | refine And.intro ?_ ?_)))) ?_ | refine at_da hlx rfl ?_ | refine at_da hpx rfl ?_ | refine ify ?_ | refine ifn ?_ | refine i6 ?_ | refine ati ?_ | refine mst ?_ | refine rmd ?_ | refine ibo (fun _ => ?_) (fun _ => ?_)) <;> conv => whnf))
          refine loop_lo (ι := Nat) (fun u => u ≤ v) (fun u => [(17, .d (.int .i64 u)), (16, .d (.int .i64 v)), (15, .d (.bool (okIv (okN (cL G p L) (dLt G.edges p whole L) v && cL G p L v) (fun u => dLt G.edges p whole L u v) u))), (14, .own 14), (13, .d (.int .i64 i)), (12, .own 301), (7, .d (dLL X)), (4, .own 4), (3, .own 3), (2, .d (.bool whole))]) (fun u => [(3, .cells 27 [.d (dIs G.labels), .d (dEs G.edges)]), (4, .cells 47 [.d (dIs p.labels), .d (dEs p.edges)]), (14, .cells 47 [.d (dIs (L.map (labelV G))), .d (dEs (madeE G.edges L))]), (301, .slice 22 1 (((X.take i).filter (okL G p whole)).map dIs))]) (fun u => v - u) 0 (fun _ => rfl) (Nat.zero_le _) (.lax 15 rfl (.prop _ rfl) (.refl _ _)) ⟨rfl, rfl, by show _ = Dat.d (.bool (okN _ _ _ && _)); rw [hb, Bool.true_and]; rfl, rfl, rfl, rfl, rfl, rfl, rfl, rfl, trivial⟩ ⟨rfl, rfl, rfl, rfl, trivial⟩ ?_
          intro u hu
          refine sxCode_sound c1_ok (G := G_r12i) (pl := pl_r12i) _ _ _ _ (by kernel_rfl) ?_
          by_cases hul : u < v
          · have h1 := rhas_pure ⟨L.map (labelV G), madeE G.edges L⟩ u v (by simp only; omega)
            have h2 := rhas_pure p u v (by omega)
            have hd : dLt G.edges p whole L u v = ((hasR (madeE G.edges L) u v || !hasR p.edges u v) && (hasR p.edges u v || !hasR (madeE G.edges L) u v || !whole)) := rfl
            have hst : okIv (okN (cL G p L) (dLt G.edges p whole L) v && cL G p L v) (fun u => dLt G.edges p whole L u v) (u + 1) = (okIv (okN (cL G p L) (dLt G.edges p whole L) v && cL G p L v) (fun u => dLt G.edges p whole L u v) u && dLt G.edges p whole L u v) := rfl
            rw [hd] at hst
            cases hb : okIv (okN (cL G p L) (dLt G.edges p whole L) v && cL G p L v) (fun u => dLt G.edges p whole L u v) u <;> cases his : hasR (madeE G.edges L) u v <;> cases hwa : hasR p.edges u v <;> cases hwo : whole <;> rw [hb, his, hwa, hwo] at hst <;> rw [his] at h1 <;> rw [hwa] at h2 <;> (conv => whnf) <;> (repeat' ((first | refine ord_ok (by (conv => whnf); (repeat' ((first | refine call_eq rfl h1 ?_ | refine call_eq rfl h2 ?_ | refine ify ?_ | refine ifn ?_ | refine i6 ?_ | refine ati ?_ | refine mst ?_ | refine rmd ?_ | refine ibo (fun _ => ?_) (fun _ => ?_)) <;> conv => whnf)); (all_goals (repeat' (first | exact trivial | exact rfl | refine And.intro ?_ ?_)))) ?_ | refine call_eq rfl h1 ?_ | refine call_eq rfl h2 ?_ | refine ify ?_ | refine ifn ?_ | refine i6 ?_ | refine ati ?_ | refine mst ?_ | refine rmd ?_ | refine ibo (fun _ => ?_) (fun _ => ?_)) <;> conv => whnf))
            all_goals exact ⟨u + 1, _, _, by omega, .refl _ _, ⟨rfl, rfl, by rw [hst]; rfl, rfl, rfl, rfl, rfl, rfl, rfl, rfl, trivial⟩, ⟨rfl, rfl, rfl, rfl, trivial⟩, by omega⟩
          · have hue : u = v := by omega
            subst hue
            ((conv => whnf); repeat' ((first | refine odw ?_ | refine ify ?_ | refine ifn ?_ | refine i6 ?_ | refine ati ?_ | refine mst ?_ | refine rmd ?_ | refine ibo (fun _ => ?_) (fun _ => ?_)) <;> conv => whnf))
            exact ⟨u + 1, _, _, by omega, .refl _ _, ⟨rfl, rfl, rfl, rfl, rfl, rfl, rfl, rfl, rfl, trivial⟩, ⟨rfl, rfl, rfl, rfl, trivial⟩, by omega⟩
      · have hve : v = p.labels.length := by omega
        subst hve
        cases hb : okN (cL G p L) (dLt G.edges p whole L) p.labels.length with
        | false =>
          have ho : okL G p whole L = false := hb
          rw [ho, if_neg (by decide), List.append_nil] at htk
          ((conv => whnf); repeat' ((first | refine odw ?_ | refine ify ?_ | refine ifn ?_ | refine i6 ?_ | refine ati ?_ | refine mst ?_ | refine rmd ?_ | refine ibo (fun _ => ?_) (fun _ => ?_)) <;> conv => whnf))
          exact ⟨i + 1, _, _, by omega, .refl _ _, ⟨rfl, rfl, rfl, rfl, rfl, rfl, trivial⟩, ⟨rfl, rfl, slice_is (by rw [htk]), trivial⟩, by omega⟩
        | true =>
          have ho : okL G p whole L = true := hb
          rw [ho, if_pos rfl] at htk
          (conv => whnf)
          (repeat' ((first | refine ord_ok (by (conv => whnf); (repeat' ((first | refine at_da hxd rfl ?_ | refine ify ?_ | refine ifn ?_ | refine i6 ?_ | refine ati ?_ | refine mst ?_ | refine rmd ?_ | refine ibo (fun _ => ?_) (fun _ => ?_)) <;> conv => whnf)); (all_goals (repeat' (first | exact trivial | exact rfl | refine And.intro ?_ ?_)))) ?_ | refine at_da hxd rfl ?_ | refine ify ?_ | refine ifn ?_ | refine i6 ?_ | refine ati ?_ | refine mst ?_ | refine rmd ?_ | refine ibo (fun _ => ?_) (fun _ => ?_)) <;> conv => whnf))
          exact ⟨i + 1, _, _, by omega, .refl _ _, ⟨rfl, rfl, rfl, rfl, rfl, rfl, trivial⟩, ⟨rfl, rfl, slice_is (by rw [htk, List.map_append]; rfl), trivial⟩, by omega⟩
    · have hie : i = X.length := by omega
      subst hie
      rw [List.take_length]
      ((conv => whnf); repeat' ((first | refine odw ?_ | refine ify ?_ | refine ifn ?_ | refine i6 ?_ | refine ati ?_ | refine mst ?_ | refine rmd ?_ | refine ibo (fun _ => ?_) (fun _ => ?_)) <;> conv => whnf))
      exact rfl
end Go.Proofs.YteigfapjiekdnaaGreatDoor
end
