/- Merged: Mnc Dom. -/
import Derived.Test.YteigfapjiekdnaaGreatDoorKtap
import Derived.Test.YteigfapjiekdnaaGreatDoorKtaj
section
/- slices.MinFunc; mini: right, All, least, Support. -/
namespace Go.Proofs.YteigfapjiekdnaaGreatDoor
open Go.Sx Go.RowKit Go.Reg Go.Gr

set_option maxRecDepth 100000
/-- a set: nil as long as it is empty -/
def dN (s : List Int) : Da := if s = [] then .nils else dIs s
theorem dN_cons (x : Int) (s : List Int) : dN (x :: s) = dIs (x :: s) := rfl
theorem laxN (s : List Int) : LaxA (dN s) (dIs s) := by
  cases s with
  | nil => exact .nils 1
  | cons x s => exact .refl _
theorem dN_ne {s : List Int} (h : s ≠ []) : dN s = dIs s := by unfold dN; rw [if_neg h]
theorem addS_ne (s : List Int) (n : Int) : addS s n ≠ [] := fun e => by
  have : n ∈ addS s n := mem_addS.2 (.inl rfl)
  rw [e] at this; cases this
theorem dN_or (s : List Int) : dN s = .nils ∨ dN s = dIs s := by unfold dN; split <;> simp
def pl_ml1 : List (Nat × Plan) := []
def G_ml1 : List FuncId := []
theorem cok_ml1 : codeOk Tryz.prog G_ml1 pl_ml1 (Tryz.f112.body.getD .skip) = true := by kernel_rfl
theorem run_ml1 (vs : Array Value) (w : World) : (callFunc 112 vs).run C1.P w = .ok (.enter 112 vs) w := by kernel_rfl
theorem least1_pure (a b : List Int) (ha : a.length ≤ 1000000000) (hb : b.length ≤ 1000000000) : Pure C1 112 [dN a, dN b] (fun y => y = .int .i64 ((a.length : Int) - b.length)) := by
  have hda : (a.map dI).length = a.length := List.length_map _
  have hdb : (b.map dI).length = b.length := List.length_map _
  refine Sx.Pure.lax (.cons (laxN a) (.cons (laxN b) .nil)) ?_
  refine pure_of c1_ok (pl := pl_ml1) (G := G_ml1) Tryz.func112 rfl Tryz.ntmps112 run_ml1 cok_ml1 (by simp) ?_
  ((conv => whnf); repeat' ((first | refine odw ?_ | refine ify ?_ | refine ifn ?_ | refine i6 ?_ | refine ati ?_ | refine mst ?_ | refine rmd ?_ | refine ibo (fun _ => ?_) (fun _ => ?_)) <;> conv => whnf))
  exact congrArg (Da.int .i64) (by omega)
def pl_mnf : List (Nat × Plan) := []
def G_mnf : List FuncId := []
theorem cok_mnf : codeOk Tryz.prog G_mnf pl_mnf (Tryz.f111.body.getD .skip) = true := by kernel_rfl
theorem run_mnf (vs : Array Value) (w : World) : (callFunc 111 vs).run C1.P w = .ok (.enter 111 vs) w := by kernel_rfl
set_option maxHeartbeats 4000000 in
theorem minf_pure (l : List (List Int)) (h0 : l ≠ []) (hm : l.length ≤ 1000) (hs : ∀ s ∈ l, s.length ≤ 1000000000) : Pure C1 111 [.list 1 (l.map dN), .func (.func 112) [] []] (fun y => ∃ s ∈ l, y = dN s ∧ ∀ t ∈ l, s.length ≤ t.length) := by
  have hdl : (l.map dN).length = l.length := List.length_map _
  have hpos : 0 < l.length := List.length_pos_iff.2 h0
  have hx := List.getElem?_eq_getElem hpos
  have hxm := List.getElem_mem hpos
  generalize l[0] = s0 at hx hxm
  have hxd : (l.map dN)[0]? = some (dN s0) := by rw [List.getElem?_map, hx]; rfl
  refine pure_of c1_ok (pl := pl_mnf) (G := G_mnf) Tryz.func111 rfl Tryz.ntmps111 run_mnf cok_mnf (by simp) ?_
  have hstart : ∃ z, z = dN s0 ∧ (z = .nils ∨ z = dIs s0) := ⟨_, rfl, dN_or s0⟩
  obtain ⟨z, hz, hzo⟩ := hstart
  rw [← hz] at hxd
  rcases hzo with rfl | rfl <;> (conv => whnf) <;> (repeat' ((first | refine ord_ok (by (conv => whnf); (repeat' ((first | refine at_da hxd rfl ?_ | refine ify ?_ | refine ifn ?_ | refine i6 ?_ | refine ati ?_ | refine mst ?_ | refine rmd ?_ | refine ibo (fun _ => ?_) (fun _ => ?_)) <;> conv => whnf)); (all_goals (repeat' (first | exact trivial | exact rfl | refine And.intro ?_ ?_)))) ?_ | refine at_da hxd rfl ?_ | refine ify ?_ | refine ifn ?_ | refine i6 ?_ | refine ati ?_ | refine mst ?_ | refine rmd ?_ | refine ibo (fun _ => ?_) (fun _ => ?_)) <;> conv => whnf))
  all_goals
    refine loop_lo (ι := Nat × List Int × Da) (fun x => (1 ≤ x.1 ∧ x.1 ≤ l.length) ∧ x.2.2 = dN x.2.1 ∧ x.2.1 ∈ l ∧ ∀ k t, k < x.1 → l[k]? = some t → x.2.1.length ≤ t.length) (fun x => [(6, .d (.int .i64 x.1)), (5, .d x.2.2), (1, .d (.func (.func 112) [] [])), (0, .d (.list 1 (l.map dN)))]) (fun _ => []) (fun x => l.length - x.1) (1, s0, _) (fun _ => rfl) ⟨⟨Nat.le_refl _, hpos⟩, hz, hxm, fun k t hk ht => by rw [show k = 0 by omega, hx] at ht; cases ht; exact Nat.le_refl _⟩ (.refl _ _) ⟨rfl, rfl, rfl, rfl, trivial⟩ trivial ?_
    rintro ⟨i, s, d⟩ ⟨⟨h1, h2⟩, hd, hsm, hle⟩
    dsimp only at h1 h2 hd hsm hle
    refine sxCode_sound c1_ok (G := G_mnf) (pl := pl_mnf) _ _ _ _ (by kernel_rfl) ?_
    by_cases hlt : i < l.length
    · have hy := List.getElem?_eq_getElem hlt
      have hym := List.getElem_mem hlt
      generalize l[i] = x at hy hym
      have hyd : (l.map dN)[i]? = some (dN x) := by rw [List.getElem?_map, hy]; rfl
      have hc := least1_pure x s (hs x hym) (hs s hsm)
      have hst : ∀ z, (∀ k t, k < i → l[k]? = some t → z ≤ t.length) → z ≤ x.length → ∀ k t, k < i + 1 → l[k]? = some t → z ≤ t.length := by
        intro z hz hzx k t hk ht
        rcases Nat.lt_or_ge k i with h | h
        · exact hz k t h ht
        · rw [show k = i by omega, hy] at ht; cases ht; exact hzx
      have hsx := dN_or s
      have hxx := dN_or x
      rw [← hd] at hc hsx
      generalize hX : dN x = xd at hyd hc hxx
      by_cases hxs : x.length < s.length
      · have hneg : (x.length : Int) - s.length < 0 := by omega
        rcases hsx with rfl | rfl <;> rcases hxx with rfl | rfl <;> (conv => whnf) <;> (repeat' ((first | refine ord_ok (by (conv => whnf); (repeat' ((first | refine at_da hyd rfl ?_ | refine call_eq rfl hc ?_ | refine ify ?_ | refine ifn ?_ | refine i6 ?_ | refine ati ?_ | refine mst ?_ | refine rmd ?_ | refine ibo (fun _ => ?_) (fun _ => ?_)) <;> conv => whnf)); (all_goals (repeat' (first | exact trivial | exact rfl | refine And.intro ?_ ?_)))) ?_ | refine at_da hyd rfl ?_ | refine call_eq rfl hc ?_ | refine ify ?_ | refine ifn ?_ | refine i6 ?_ | refine ati ?_ | refine mst ?_ | refine rmd ?_ | refine ibo (fun _ => ?_) (fun _ => ?_)) <;> conv => whnf))
        all_goals exact ⟨(i + 1, x, _), _, _, ⟨⟨by dsimp only; omega, hlt⟩, hX.symm, hym, hst _ (fun k t hk ht => Nat.le_trans (Nat.le_of_lt hxs) (hle k t hk ht)) (Nat.le_refl _)⟩, .refl _ _, ⟨rfl, rfl, rfl, rfl, trivial⟩, trivial, by dsimp only; omega⟩
      · rcases hsx with rfl | rfl <;> rcases hxx with rfl | rfl <;> (conv => whnf) <;> (repeat' ((first | refine ord_ok (by (conv => whnf); (repeat' ((first | refine at_da hyd rfl ?_ | refine call_eq rfl hc ?_ | refine ify ?_ | refine ifn ?_ | refine i6 ?_ | refine ati ?_ | refine mst ?_ | refine rmd ?_ | refine ibo (fun _ => ?_) (fun _ => ?_)) <;> conv => whnf)); (all_goals (repeat' (first | exact trivial | exact rfl | refine And.intro ?_ ?_)))) ?_ | refine at_da hyd rfl ?_ | refine call_eq rfl hc ?_ | refine ify ?_ | refine ifn ?_ | refine i6 ?_ | refine ati ?_ | refine mst ?_ | refine rmd ?_ | refine ibo (fun _ => ?_) (fun _ => ?_)) <;> conv => whnf))
        all_goals exact ⟨(i + 1, s, _), _, _, ⟨⟨by dsimp only; omega, hlt⟩, hd, hsm, hst s.length hle (by omega)⟩, .refl _ _, ⟨rfl, rfl, rfl, rfl, trivial⟩, trivial, by dsimp only; omega⟩
    · have hsx := dN_or s
      rw [← hd] at hsx
      rcases hsx with rfl | rfl <;> ((conv => whnf); repeat' ((first | refine odw ?_ | refine ify ?_ | refine ifn ?_ | refine i6 ?_ | refine ati ?_ | refine mst ?_ | refine rmd ?_ | refine ibo (fun _ => ?_) (fun _ => ?_)) <;> conv => whnf))
      all_goals
        refine ⟨s, hsm, hd, fun t ht => ?_⟩
        obtain ⟨k, hk⟩ := List.mem_iff_getElem?.1 ht
        have := (List.getElem?_eq_some_iff.1 hk).1
        exact hle k t (by omega) hk
def pl_mlt : List (Nat × Plan) := []
def G_mlt : List FuncId := [111]
theorem cok_mlt : codeOk Tryz.prog G_mlt pl_mlt (Tryz.f52.body.getD .skip) = true := by kernel_rfl
theorem run_mlt (vs : Array Value) (w : World) : (callFunc 52 vs).run C1.P w = .ok (.enter 52 vs) w := by kernel_rfl
theorem least_pure (l : List (List Int)) (h0 : l ≠ []) (hm : l.length ≤ 1000) (hs : ∀ s ∈ l, s.length ≤ 1000000000) : Pure C1 52 [.list 1 (l.map dN)] (fun y => y = .int .i64 (leastL l : Nat)) := by
  have hdl : (l.map dN).length = l.length := List.length_map _
  have hpos : 0 < l.length := List.length_pos_iff.2 h0
  refine pure_of c1_ok (pl := pl_mlt) (G := G_mlt) Tryz.func52 rfl Tryz.ntmps52 run_mlt cok_mlt (by simp) ?_
  ((conv => whnf); repeat' ((first | refine odw ?_ | refine ify ?_ | refine ifn ?_ | refine i6 ?_ | refine ati ?_ | refine mst ?_ | refine rmd ?_ | refine ibo (fun _ => ?_) (fun _ => ?_)) <;> conv => whnf))
  refine call_pure rfl (minf_pure l h0 hm hs) ?_; rintro y ⟨s, hsm, rfl, hle⟩
  rw [leastL_is hsm hle]
  cases s with
  | nil =>
    rw [show dN [] = Da.nils from rfl]
    ((conv => whnf); repeat' ((first | refine odw ?_ | refine ify ?_ | refine ifn ?_ | refine i6 ?_ | refine ati ?_ | refine mst ?_ | refine rmd ?_ | refine ibo (fun _ => ?_) (fun _ => ?_)) <;> conv => whnf))
    exact rfl
  | cons x s =>
    have hds : ((x :: s).map dI).length = (x :: s).length := List.length_map _
    rw [dN_cons]
    ((conv => whnf); repeat' ((first | refine odw ?_ | refine ify ?_ | refine ifn ?_ | refine i6 ?_ | refine ati ?_ | refine mst ?_ | refine rmd ?_ | refine ibo (fun _ => ?_) (fun _ => ?_)) <;> conv => whnf))
    exact congrArg (Da.int .i64) (by omega)
def patternS : ByteArray := ⟨#[112, 97, 116, 116, 101, 114, 110]⟩
def pl_mri : List (Nat × Plan) := []
def G_mri : List FuncId := [31, 63]
theorem cok_mri : codeOk Tryz.prog G_mri pl_mri (Tryz.f53.body.getD .skip) = true := by kernel_rfl
theorem run_mri (vs : Array Value) (w : World) : (callFunc 53 vs).run C1.P w = .ok (.enter 53 vs) w := by kernel_rfl
theorem mright_pure {p : Pt} (hp : pErr p = none) (h0 : p.labels ≠ []) (hm : p.labels.length ≤ 1000) (hme : p.edges.length ≤ 1000) : Pure C1 53 [dPt p] (fun y => y = .nili) := by
  have hdl : (p.labels.map dI).length = p.labels.length := List.length_map _
  have hpos : 0 < p.labels.length := List.length_pos_iff.2 h0
  have hr := pright_pure p (by omega) (by omega)
  rw [rightP_none hp] at hr
  refine pure_of c1_ok (pl := pl_mri) (G := G_mri) Tryz.func53 rfl Tryz.ntmps53 run_mri cok_mri (by simp) ?_
  (conv => whnf)
  (repeat' ((first | refine ord_ok (by (conv => whnf); (repeat' ((first | refine call_eq rfl hr ?_ | refine ify ?_ | refine ifn ?_ | refine i6 ?_ | refine ati ?_ | refine mst ?_ | refine rmd ?_ | refine ibo (fun _ => ?_) (fun _ => ?_)) <;> conv => whnf)); (all_goals (repeat' (first | exact trivial | exact rfl | refine And.intro ?_ ?_)))) ?_ | refine call_eq rfl hr ?_ | refine ify ?_ | refine ifn ?_ | refine i6 ?_ | refine ati ?_ | refine mst ?_ | refine rmd ?_ | refine ibo (fun _ => ?_) (fun _ => ?_)) <;> conv => whnf))
  exact rfl
theorem mright_empty : Pure C1 53 [dPt ⟨[], []⟩] (fun y => y = dF 2 0 patternS) := by
  have hr := pright_pure ⟨[], []⟩ (by decide) (by decide)
  rw [rightP_none (show pErr ⟨[], []⟩ = none by decide)] at hr
  have hf := fnew_pure 2 0 patternS
  refine pure_of c1_ok (pl := pl_mri) (G := G_mri) Tryz.func53 rfl Tryz.ntmps53 run_mri cok_mri (by simp) ?_
  (conv => whnf)
  (repeat' ((first | refine ord_ok (by (conv => whnf); (repeat' ((first | refine call_eq rfl hr ?_ | refine call_eq rfl hf ?_ | refine ify ?_ | refine ifn ?_ | refine i6 ?_ | refine ati ?_ | refine mst ?_ | refine rmd ?_ | refine ibo (fun _ => ?_) (fun _ => ?_)) <;> conv => whnf)); (all_goals (repeat' (first | exact trivial | exact rfl | refine And.intro ?_ ?_)))) ?_ | refine call_eq rfl hr ?_ | refine call_eq rfl hf ?_ | refine ify ?_ | refine ifn ?_ | refine i6 ?_ | refine ati ?_ | refine mst ?_ | refine rmd ?_ | refine ibo (fun _ => ?_) (fun _ => ?_)) <;> conv => whnf))
  exact rfl
theorem sadd_nil (s : List Int) (hs : s.Pairwise (· < ·)) (hl : s.length ≤ 1000000000) (n : Int) : Pure C1 54 [dN s, .int .i64 n] (fun y => y = dIs (addS s n)) :=
  Sx.Pure.lax (.cons (laxN s) (.cons (.refl _) .nil)) (sadd_pure s hs hl n)
def pl_mal : List (Nat × Plan) := []
def G_mal : List FuncId := [53, 28, 54]
theorem cok_mal : codeOk Tryz.prog G_mal pl_mal (Tryz.f15.body.getD .skip) = true := by kernel_rfl
theorem run_mal (vs : Array Value) (w : World) : (callFunc 15 vs).run C1.P w = .ok (.enter 15 vs) w := by kernel_rfl
set_option maxHeartbeats 4000000 in
theorem all_pure (G : Gr) (hG : G.Ok) {p : Pt} (hp : pErr p = none) (h0 : p.labels ≠ []) (hG10 : G.labels.length ≤ 10) (h8 : p.labels.length ≤ 8) (hme : p.edges.length ≤ 1000) : Pure C1 15 [dG G, dPt p] (fun y => y = .tuple [.list 1 ((colsS p.labels.length (imgP G p false)).map dN), .nili]) := by
  have hdl : (p.labels.map dI).length = p.labels.length := List.length_map _
  have hr := mright_pure hp h0 (by omega) hme
  have him := qimages_pure G hG p false hG10 (by omega) (by omega)
  have ei : imagesY G p false = dLL (imgP G p false) := by unfold imagesY; rw [if_pos ⟨hp, h0⟩]; rfl
  rw [ei] at him
  have hXl : (imgP G p false).length ≤ 100000000 := Nat.le_trans (imgs_len _ _) (pow_le8 hG10 h8)
  have hXn : ∀ L ∈ imgP G p false, L.length = p.labels.length := fun L hL => (mem_imgP.1 hL).len
  generalize imgP G p false = X at him hXl hXn ⊢
  have hdX : (X.map dIs).length = X.length := List.length_map _
  have hst : List.replicate p.labels.length Da.nils = (colsS p.labels.length (X.take 0)).map dN := by
    refine List.ext_getElem? fun v => ?_
    rw [List.getElem?_map]
    by_cases hv : v < p.labels.length
    · rw [colsS_at hv, List.take_zero, colS_nil, List.getElem?_replicate, if_pos hv]; rfl
    · rw [List.getElem?_eq_none (by rw [List.length_replicate]; omega), List.getElem?_eq_none (by rw [colsS_len]; omega)]; rfl
  refine pure_of c1_ok (pl := pl_mal) (G := G_mal) Tryz.func15 rfl Tryz.ntmps15 run_mal cok_mal (by simp) ?_
  (conv => whnf)
  (repeat' ((first | refine ord_ok (by (conv => whnf); (repeat' ((first | refine call_eq rfl hr ?_ | refine call_eq rfl him ?_ | refine mk_ok p.labels.length (by omega) (by omega) (by omega) ?_ | refine ify ?_ | refine ifn ?_ | refine i6 ?_ | refine ati ?_ | refine mst ?_ | refine rmd ?_ | refine ibo (fun _ => ?_) (fun _ => ?_)) <;> conv => whnf)); (all_goals (repeat' (first | exact trivial | exact rfl | refine And.intro ?_ ?_)))) ?_ | refine call_eq rfl hr ?_ | refine call_eq rfl him ?_ | refine mk_ok p.labels.length (by omega) (by omega) (by omega) ?_ | refine ify ?_ | refine ifn ?_ | refine i6 ?_ | refine ati ?_ | refine mst ?_ | refine rmd ?_ | refine ibo (fun _ => ?_) (fun _ => ?_)) <;> conv => whnf))
  refine loop_lo (ι := Nat) (fun k => k ≤ X.length) (fun k => [(25, .d (.int .i64 k)), (24, .d (.int .i64 X.length)), (23, .d (dLL X)), (7, .own 20)]) (fun k => [(20, .slice 22 1 ((colsS p.labels.length (X.take k)).map dN))]) (fun k => X.length - k) 0 (fun _ => rfl) (Nat.zero_le _) (.refl _ _) ⟨rfl, by rw [← hdX]; rfl, rfl, rfl, trivial⟩ ⟨slice_is hst, trivial⟩ ?_
  intro k hk
  refine sxCode_sound c1_ok (G := G_mal) (pl := pl_mal) _ _ _ _ (by kernel_rfl) ?_
  by_cases hkl : k < X.length
  · have hx := List.getElem?_eq_getElem hkl
    have hxm := List.getElem_mem hkl
    generalize X[k] = L at hx hxm
    have hLn := hXn L hxm
    have hdL : (L.map dI).length = L.length := List.length_map _
    have hxd : (X.map dIs)[k]? = some (dIs L) := by rw [List.getElem?_map, hx]; rfl
    have htk : X.take (k + 1) = X.take k ++ [L] := by rw [List.take_add_one, hx]; rfl
    have hcl : ∀ j, (colS (X.take k) j).length ≤ 100000000 := fun j => by
      have := colS_len (X.take k) j
      rw [List.length_take] at this; omega
    have hcr : ∀ j, (colS (X.take k) j).Pairwise (· < ·) := fun j => colS_rise _ _
    (conv => whnf)
    (repeat' ((first | refine ord_ok (by (conv => whnf); (repeat' ((first | refine at_da hxd rfl ?_ | refine ify ?_ | refine ifn ?_ | refine i6 ?_ | refine ati ?_ | refine mst ?_ | refine rmd ?_ | refine ibo (fun _ => ?_) (fun _ => ?_)) <;> conv => whnf)); (all_goals (repeat' (first | exact trivial | exact rfl | refine And.intro ?_ ?_)))) ?_ | refine at_da hxd rfl ?_ | refine ify ?_ | refine ifn ?_ | refine i6 ?_ | refine ati ?_ | refine mst ?_ | refine rmd ?_ | refine ibo (fun _ => ?_) (fun _ => ?_)) <;> conv => whnf))
    refine loop_lo (ι := Nat) (fun j => j ≤ L.length) (fun j => [(31, .d (.int .i64 j)), (30, .d (.int .i64 L.length)), (29, .d (dIs L)), (25, .d (.int .i64 k)), (24, .d (.int .i64 X.length)), (23, .d (dLL X)), (7, .own 20)]) (fun j => [(20, .slice 22 1 ((midS p.labels.length (X.take k) L (fun v => decide (v < j))).map dN))]) (fun j => L.length - j) 0 (fun _ => rfl) (Nat.zero_le _) (.refl _ _) ⟨rfl, by rw [← hdL]; rfl, rfl, rfl, rfl, rfl, rfl, trivial⟩ ⟨slice_is (by rw [midS_start _ _ _ (fun v _ => decide_eq_false (Nat.not_lt_zero v))]), trivial⟩ ?_
    intro j hj
    refine sxCode_sound c1_ok (G := G_mal) (pl := pl_mal) _ _ _ _ (by kernel_rfl) ?_
    by_cases hjl : j < L.length
    · have hy := List.getElem?_eq_getElem hjl
      generalize L[j] = v at hy
      have hyd : (L.map dI)[j]? = some (.int .i64 v) := by rw [List.getElem?_map, hy]; rfl
      have had := sadd_nil (colS (X.take k) j) (hcr j) (by have := hcl j; omega) v
      have hstep := congrArg (List.map dN) (midS_step (k := p.labels.length) (Y := X.take k) (done := fun v => decide (v < j)) (done' := fun v => decide (v < j + 1)) hy (fun u _ => by
        rw [Bool.eq_iff_iff, Bool.or_eq_true, decide_eq_true_eq, decide_eq_true_eq, decide_eq_true_eq]; omega))
      rw [List.map_set, dN_ne (addS_ne _ _)] at hstep
      have hod : ((midS p.labels.length (X.take k) L (fun v => decide (v < j))).map dN)[j]? = some (dN (colS (X.take k) j)) := by
        rw [List.getElem?_map, midS_at (by omega), if_neg (by simp)]; rfl
      have hol : ((midS p.labels.length (X.take k) L (fun v => decide (v < j))).map dN).length = p.labels.length := by rw [List.length_map, midS_len]
      generalize (midS p.labels.length (X.take k) L (fun v => decide (v < j))).map dN = O at hstep hod hol ⊢
      generalize hX : dN (colS (X.take k) j) = xd at hod had
      have hxx := dN_or (colS (X.take k) j)
      rw [hX] at hxx
      rcases hxx with rfl | rfl <;> (conv => whnf) <;> (repeat' ((first | refine ord_ok (by (conv => whnf); (repeat' ((first | refine at_da hyd rfl ?_ | refine el_at (i := j) rfl (by omega) ?_ | refine el_is hod ?_ | refine call_eq rfl had ?_ | refine ify ?_ | refine ifn ?_ | refine i6 ?_ | refine ati ?_ | refine mst ?_ | refine rmd ?_ | refine ibo (fun _ => ?_) (fun _ => ?_)) <;> conv => whnf)); (all_goals (repeat' (first | exact trivial | exact rfl | refine And.intro ?_ ?_)))) ?_ | refine at_da hyd rfl ?_ | refine el_at (i := j) rfl (by omega) ?_ | refine el_is hod ?_ | refine call_eq rfl had ?_ | refine ify ?_ | refine ifn ?_ | refine i6 ?_ | refine ati ?_ | refine mst ?_ | refine rmd ?_ | refine ibo (fun _ => ?_) (fun _ => ?_)) <;> conv => whnf))
      all_goals exact ⟨j + 1, _, _, hjl, .refl _ _, ⟨rfl, rfl, rfl, rfl, rfl, rfl, rfl, trivial⟩, ⟨slice_is hstep, trivial⟩, by omega⟩
    · rw [midS_end _ _ _ (fun v hv => decide_eq_true (by omega)), ← htk]
      ((conv => whnf); repeat' ((first | refine odw ?_ | refine ify ?_ | refine ifn ?_ | refine i6 ?_ | refine ati ?_ | refine mst ?_ | refine rmd ?_ | refine ibo (fun _ => ?_) (fun _ => ?_)) <;> conv => whnf))
      exact ⟨k + 1, _, _, hkl, .refl _ _, ⟨rfl, rfl, rfl, rfl, trivial⟩, ⟨rfl, trivial⟩, by omega⟩
  · rw [List.take_of_length_le (by omega)]
    ((conv => whnf); repeat' ((first | refine odw ?_ | refine ify ?_ | refine ifn ?_ | refine i6 ?_ | refine ati ?_ | refine mst ?_ | refine rmd ?_ | refine ibo (fun _ => ?_) (fun _ => ?_)) <;> conv => whnf))
    exact rfl
/-- a pattern's support -/
def supP (G : Gr) (p : Pt) : Nat := leastL (colsS p.labels.length (imgP G p false))
def pl_msu : List (Nat × Plan) := []
def G_msu : List FuncId := [15, 52]
theorem cok_msu : codeOk Tryz.prog G_msu pl_msu (Tryz.f14.body.getD .skip) = true := by kernel_rfl
theorem run_msu (vs : Array Value) (w : World) : (callFunc 14 vs).run C1.P w = .ok (.enter 14 vs) w := by kernel_rfl
theorem support_pure (G : Gr) (hG : G.Ok) {p : Pt} (hp : pErr p = none) (h0 : p.labels ≠ []) (hG10 : G.labels.length ≤ 10) (h8 : p.labels.length ≤ 8) (hme : p.edges.length ≤ 1000) : Pure C1 14 [dG G, dPt p] (fun y => y = .tuple [.int .i64 (supP G p : Nat), .nili]) := by
  have ha := all_pure G hG hp h0 hG10 h8 hme
  have hXl : (imgP G p false).length ≤ 100000000 := Nat.le_trans (imgs_len _ _) (pow_le8 hG10 h8)
  have hpos : 0 < p.labels.length := List.length_pos_iff.2 h0
  have hl := least_pure (colsS p.labels.length (imgP G p false)) (fun e => by have := colsS_len p.labels.length (imgP G p false); rw [e] at this; simp at this; omega) (by rw [colsS_len]; omega) (fun s hs => by
    obtain ⟨i, _, rfl⟩ := mem_colsS.1 hs
    have := colS_len (imgP G p false) i
    omega)
  refine pure_of c1_ok (pl := pl_msu) (G := G_msu) Tryz.func14 rfl Tryz.ntmps14 run_msu cok_msu (by simp) ?_
  (conv => whnf)
  (repeat' ((first | refine ord_ok (by (conv => whnf); (repeat' ((first | refine call_eq rfl ha ?_ | refine call_eq rfl hl ?_ | refine ify ?_ | refine ifn ?_ | refine i6 ?_ | refine ati ?_ | refine mst ?_ | refine rmd ?_ | refine ibo (fun _ => ?_) (fun _ => ?_)) <;> conv => whnf)); (all_goals (repeat' (first | exact trivial | exact rfl | refine And.intro ?_ ?_)))) ?_ | refine call_eq rfl ha ?_ | refine call_eq rfl hl ?_ | refine ify ?_ | refine ifn ?_ | refine i6 ?_ | refine ati ?_ | refine mst ?_ | refine rmd ?_ | refine ibo (fun _ => ?_) (fun _ => ?_)) <;> conv => whnf))
  exact rfl
end Go.Proofs.YteigfapjiekdnaaGreatDoor
end

section
/- law08.To; mini.Domains that nobody turns any more: Sets, Support; law15.same. -/
namespace Go.Proofs.YteigfapjiekdnaaGreatDoor
open Go.Sx Go.RowKit Go.Reg Go.Gr

set_option maxRecDepth 100000
theorem cloneN_pure (s : List Int) (hl : s.length ≤ 1000000000) : Pure C1 55 [dN s] (fun y => y = dN s) := by
  cases s with
  | cons x s => exact clone1_pure x s (by omega)
  | nil =>
    show Pure C1 _ [.nils] (fun y => y = .nils)
    refine pure_of c1_ok (pl := pl_clone) (G := G_clone) Tryz.func55 rfl Tryz.ntmps55 run_clone cok_clone (by simp) ?_
    ((conv => whnf); repeat' ((first | refine odw ?_ | refine ify ?_ | refine ifn ?_ | refine i6 ?_ | refine ati ?_ | refine mst ?_ | refine rmd ?_ | refine ibo (fun _ => ?_) (fun _ => ?_)) <;> conv => whnf))
    all_goals exact rfl
def pl_dse : List (Nat × Plan) := []
def G_dse : List FuncId := [55]
theorem cok_dse : codeOk Tryz.prog G_dse pl_dse (Tryz.f26.body.getD .skip) = true := by kernel_rfl
theorem run_dse (vs : Array Value) (w : World) : (callFunc 26 vs).run C1.P w = .ok (.enter 26 vs) w := by kernel_rfl
def pl_dsu : List (Nat × Plan) := []
def G_dsu : List FuncId := [26, 52]
theorem cok_dsu : codeOk Tryz.prog G_dsu pl_dsu (Tryz.f27.body.getD .skip) = true := by kernel_rfl
theorem run_dsu (vs : Array Value) (w : World) : (callFunc 27 vs).run C1.P w = .ok (.enter 27 vs) w := by kernel_rfl
theorem sameN (s : List Int) : Pure C1 36 [dN s, dN s] (fun y => y = .bool true) := by
  have h := same_pure s s
  rw [decide_eq_true rfl] at h
  exact Sx.Pure.lax (.cons (laxN s) (.cons (laxN s) .nil)) h
def pl_d15s : List (Nat × Plan) := [(6, .leaf [0, 0, 0, 1, 0, 0, 0, 1, 2, 0] [0, 1, 2, 4, 5, 6, 3, 7, 8, 9] [0, 0, 3, 7, 0, 0, 48, 112, 255, 511])]
def G_d15s : List FuncId := [36]
theorem cok_d15s : codeOk Tryz.prog G_d15s pl_d15s (Tryz.f25.body.getD .skip) = true := by kernel_rfl
theorem run_d15s (vs : Array Value) (w : World) : (callFunc 25 vs).run C1.P w = .ok (.enter 25 vs) w := by kernel_rfl
theorem same15_pure (S : List (List Int)) (hm : S.length ≤ 1000) : Pure C1 25 [.list 1 (S.map dN), .list 1 (S.map dN)] (fun y => y = .bool true) := by
  have hdS : (S.map dN).length = S.length := List.length_map _
  refine pure_of c1_ok (pl := pl_d15s) (G := G_d15s) Tryz.func25 rfl Tryz.ntmps25 run_d15s cok_d15s (by simp) ?_
  ((conv => whnf); repeat' ((first | refine odw ?_ | refine ify ?_ | refine ifn ?_ | refine i6 ?_ | refine ati ?_ | refine mst ?_ | refine rmd ?_ | refine ibo (fun _ => ?_) (fun _ => ?_)) <;> conv => whnf))
  refine loop_lo (ι := Nat) (fun i => i ≤ S.length) (fun i => [(5, .d (.int .i64 i)), (1, .d (.list 1 (S.map dN))), (0, .d (.list 1 (S.map dN)))]) (fun _ => []) (fun i => S.length - i) 0 (fun _ => rfl) (Nat.zero_le _) (.refl _ _) ⟨rfl, rfl, rfl, trivial⟩ trivial ?_
  intro i hi
  refine sxCode_sound c1_ok (G := G_d15s) (pl := pl_d15s) _ _ _ _ (by kernel_rfl) ?_
  by_cases hil : i < S.length
  · have hx := List.getElem?_eq_getElem hil
    generalize S[i] = x at hx
    have hsm := sameN x
    have hxd : (S.map dN)[i]? = some (dN x) := by rw [List.getElem?_map, hx]; rfl
    have hxx := dN_or x
    generalize dN x = xd at hsm hxd hxx
    rcases hxx with rfl | rfl <;> (conv => whnf) <;> (repeat' ((first | refine ord_ok (by (conv => whnf); (repeat' ((first | refine at_da hxd rfl ?_ | refine call_eq rfl hsm ?_ | refine ify ?_ | refine ifn ?_ | refine i6 ?_ | refine ati ?_ | refine mst ?_ | refine rmd ?_ | refine ibo (fun _ => ?_) (fun _ => ?_)) <;> conv => whnf)); (all_goals (repeat' (first | exact trivial | exact rfl | refine And.intro ?_ ?_)))) ?_ | refine at_da hxd rfl ?_ | refine call_eq rfl hsm ?_ | refine ify ?_ | refine ifn ?_ | refine i6 ?_ | refine ati ?_ | refine mst ?_ | refine rmd ?_ | refine ibo (fun _ => ?_) (fun _ => ?_)) <;> conv => whnf))
    all_goals exact ⟨i + 1, _, _, hil, .refl _ _, ⟨rfl, rfl, rfl, trivial⟩, trivial, by omega⟩
  · ((conv => whnf); repeat' ((first | refine odw ?_ | refine ify ?_ | refine ifn ?_ | refine i6 ?_ | refine ati ?_ | refine mst ?_ | refine rmd ?_ | refine ibo (fun _ => ?_) (fun _ => ?_)) <;> conv => whnf))
    exact rfl
end Go.Proofs.YteigfapjiekdnaaGreatDoor
end
