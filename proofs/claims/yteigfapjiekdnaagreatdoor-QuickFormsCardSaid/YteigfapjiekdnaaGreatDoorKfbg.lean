/- Merged: Qfw Qtl Vsb. -/
import Derived.Test.YteigfapjiekdnaaGreatDoorKfbf
import Derived.Test.YteigfapjiekdnaaGreatDoorKfap
import Derived.Test.YteigfapjiekdnaaGreatDoorKfav
import Derived.Test.YteigfapjiekdnaaGreatDoorKfay
import Derived.Test.YteigfapjiekdnaaGreatDoorKfax
import Derived.Test.YteigfapjiekdnaaGreatDoorKfai
import Derived.Test.YteigfapjiekdnaaGreatDoorKfam
section
/- quick: Form. -/
namespace Go.Proofs.YteigfapjiekdnaaGreatDoor
open Go.Sx Go.RowKit Go.Reg Go.Gr

set_option maxRecDepth 100000
def vertsS : ByteArray := ⟨#[118, 101, 114, 116, 105, 99, 101, 115]⟩
theorem badP : pErr ⟨[-1], []⟩ = some (3, 0) := by decide
def pl_cfb : List (Nat × Plan) := [(7, .split 0 3 (.leaf [1, 0, 1, 3, 3, 3] [1, 0, 2, 3, 4, 5] [0, 0, 2, 7, 15, 31]) (.split 0 4 (.leaf [1, 0, 1, 3, 3, 3] [1, 2, 3, 0, 4, 5] [14, 0, 2, 6, 15, 31]) (.leaf [1, 0, 1, 3, 3, 3] [1, 2, 3, 4, 0, 5] [30, 0, 2, 6, 14, 31]))),
  (12, .split 1 2 (.leaf [1, 1, 3, 0, 0] [0, 1, 2, 3, 4] [0, 0, 3, 7, 15]) (.leaf [1, 1, 3, 0, 0] [0, 2, 1, 3, 4] [0, 5, 1, 7, 15]))]
def G_cfb : List FuncId := [31]
theorem cok_cfb : codeOk Tryz.prog G_cfb pl_cfb (Tryz.f20.body.getD .skip) = true := by kernel_rfl
theorem run_cfb (vs : Array Value) (w : World) : (callFunc 20 vs).run C1.P w = .ok (.enter 20 vs) w := by kernel_rfl
theorem formbad_pure : ∃ s, Pure C1 20 [dPt ⟨[-1], []⟩] (fun y => y = .tuple [dP0, .nils, dF 3 0 s]) := by
  obtain ⟨s, hs⟩ := rightP_some badP
  have hr := pright_pure ⟨[-1], []⟩ (by decide) (by decide)
  rw [hs] at hr
  refine ⟨s, ?_⟩
  refine pure_of c1_ok (pl := pl_cfb) (G := G_cfb) Tryz.func20 rfl Tryz.ntmps20 run_cfb cok_cfb (by simp) ?_
  (conv => whnf)
  (repeat' ((first | refine ord_ok (by (conv => whnf); (repeat' ((first | refine call_eq rfl hr ?_ | refine ify ?_ | refine ifn ?_ | refine i6 ?_ | refine ati ?_ | refine mst ?_ | refine rmd ?_ | refine ibo (fun _ => ?_) (fun _ => ?_)) <;> conv => whnf)); (all_goals (repeat' (first | exact trivial | exact rfl | refine And.intro ?_ ?_)))) ?_ | refine call_eq rfl hr ?_ | refine ify ?_ | refine ifn ?_ | refine i6 ?_ | refine ati ?_ | refine mst ?_ | refine rmd ?_ | refine ibo (fun _ => ?_) (fun _ => ?_)) <;> conv => whnf))
  exact rfl
def pl_qfo : List (Nat × Plan) := []
def G_qfo : List FuncId := [20, 79, 63]
theorem cok_qfo : codeOk Tryz.prog G_qfo pl_qfo (Tryz.f41.body.getD .skip) = true := by kernel_rfl
theorem run_qfo (vs : Array Value) (w : World) : (callFunc 41 vs).run C1.P w = .ok (.enter 41 vs) w := by kernel_rfl
theorem qform_pure {p : Pt} (hp : pErr p = none) (l : List Int) (hl : l.length = p.labels.length) : Pure C1 41 [dPt p, dIs l] (fun y => y = .tuple [dPt (formP p), dIs (mvI (byP p) l), .nili]) := by
  have hE := pt_edges hp
  have hf := form_pure p hp (by omega)
  obtain ⟨_, hB, _⟩ := form_spec (pt_of hp)
  have h8 := (lErr_none (pErr_none hp).1).1
  have hpu := permput_pure (byP p) l (by have := hB.1; omega)
  rw [show putY (byP p) l = .tuple [dIs (mvI (byP p) l), .nili] by
    unfold putY
    rw [if_neg (by rw [(ordR_is (by rw [hB.1]; exact h8)).2 (by rw [hB.1]; exact hB)]; decide), if_pos (hB.1.trans hl.symm)]; rfl] at hpu
  refine pure_of c1_ok (pl := pl_qfo) (G := G_qfo) Tryz.func41 rfl Tryz.ntmps41 run_qfo cok_qfo (by simp) ?_
  (conv => whnf)
  (repeat' ((first | refine ord_ok (by (conv => whnf); (repeat' ((first | refine call_eq rfl hf ?_ | refine call_eq rfl hpu ?_ | refine ify ?_ | refine ifn ?_ | refine i6 ?_ | refine ati ?_ | refine mst ?_ | refine rmd ?_ | refine ibo (fun _ => ?_) (fun _ => ?_)) <;> conv => whnf)); (all_goals (repeat' (first | exact trivial | exact rfl | refine And.intro ?_ ?_)))) ?_ | refine call_eq rfl hf ?_ | refine call_eq rfl hpu ?_ | refine ify ?_ | refine ifn ?_ | refine i6 ?_ | refine ati ?_ | refine mst ?_ | refine rmd ?_ | refine ibo (fun _ => ?_) (fun _ => ?_)) <;> conv => whnf))
  exact rfl
theorem qform_long {p : Pt} (hp : pErr p = none) (l : List Int) (hl : l.length ≠ p.labels.length) : Pure C1 41 [dPt p, dIs l] (fun y => y = .tuple [dP0, .nils, dF 1 0 vertsS]) := by
  have hE := pt_edges hp
  have hf := form_pure p hp (by omega)
  obtain ⟨_, hB, _⟩ := form_spec (pt_of hp)
  have h8 := (lErr_none (pErr_none hp).1).1
  have hpu := permput_pure (byP p) l (by have := hB.1; omega)
  rw [show putY (byP p) l = .tuple [.nils, dF 1 1 ordS] by
    unfold putY
    rw [if_neg (by rw [(ordR_is (by rw [hB.1]; exact h8)).2 (by rw [hB.1]; exact hB)]; decide), if_neg (fun h => hl (h.symm.trans hB.1))]] at hpu
  have hn := fnew_pure 1 0 vertsS
  refine pure_of c1_ok (pl := pl_qfo) (G := G_qfo) Tryz.func41 rfl Tryz.ntmps41 run_qfo cok_qfo (by simp) ?_
  (conv => whnf)
  (repeat' ((first | refine ord_ok (by (conv => whnf); (repeat' ((first | refine call_eq rfl hf ?_ | refine call_eq rfl hpu ?_ | refine call_eq rfl hn ?_ | refine ify ?_ | refine ifn ?_ | refine i6 ?_ | refine ati ?_ | refine mst ?_ | refine rmd ?_ | refine ibo (fun _ => ?_) (fun _ => ?_)) <;> conv => whnf)); (all_goals (repeat' (first | exact trivial | exact rfl | refine And.intro ?_ ?_)))) ?_ | refine call_eq rfl hf ?_ | refine call_eq rfl hpu ?_ | refine call_eq rfl hn ?_ | refine ify ?_ | refine ifn ?_ | refine i6 ?_ | refine ati ?_ | refine mst ?_ | refine rmd ?_ | refine ibo (fun _ => ?_) (fun _ => ?_)) <;> conv => whnf))
  exact rfl
theorem qform_bad : ∃ s, Pure C1 41 [dPt ⟨[-1], []⟩, dIs [0]] (fun y => y = .tuple [dP0, .nils, dF 3 0 s]) := by
  obtain ⟨s, hf⟩ := formbad_pure
  refine ⟨s, ?_⟩
  refine pure_of c1_ok (pl := pl_qfo) (G := G_qfo) Tryz.func41 rfl Tryz.ntmps41 run_qfo cok_qfo (by simp) ?_
  (conv => whnf)
  (repeat' ((first | refine ord_ok (by (conv => whnf); (repeat' ((first | refine call_eq rfl hf ?_ | refine ify ?_ | refine ifn ?_ | refine i6 ?_ | refine ati ?_ | refine mst ?_ | refine rmd ?_ | refine ibo (fun _ => ?_) (fun _ => ?_)) <;> conv => whnf)); (all_goals (repeat' (first | exact trivial | exact rfl | refine And.intro ?_ ?_)))) ?_ | refine call_eq rfl hf ?_ | refine ify ?_ | refine ifn ?_ | refine i6 ?_ | refine ati ?_ | refine mst ?_ | refine rmd ?_ | refine ibo (fun _ => ?_) (fun _ => ?_)) <;> conv => whnf))
  exact rfl
end Go.Proofs.YteigfapjiekdnaaGreatDoor
end

section
/- ref10: beside, has, Linked (the quick seat). -/
namespace Go.Proofs.YteigfapjiekdnaaGreatDoor
open Go.Sx Go.RowKit Go.Reg Go.Gr

set_option maxRecDepth 100000
theorem Pure.len2t {f : FuncId} {d : Da} {l : List Int} {xs : List Da} {Q : Da → Prop} (h : l.length ≤ 9223372036854775807 → Sx.Pure C1 f (d :: dIs l :: xs) Q) : Sx.Pure C1 f (d :: dIs l :: xs) Q :=
  Pure.assume (fun O w us hr => by obtain ⟨v, vs, rfl, h1, h2⟩ := reps_inv hr; obtain ⟨v2, vs2, rfl, h3, _⟩ := reps_inv h2; exact ints_len h3) h
def pl_r10b : List (Nat × Plan) := [(4, .leaf [1, 0, 0, 0, 1, 0, 2, 0] [1, 2, 3, 5, 0, 4, 6, 7] [0, 0, 0, 6, 14, 0, 63, 127])]
def G_r10b : List FuncId := [105]
theorem cok_r10b : codeOk Tryz.prog G_r10b pl_r10b (Tryz.f93.body.getD .skip) = true := by kernel_rfl
theorem run_r10b (vs : Array Value) (w : World) : (callFunc 93 vs).run C1.P w = .ok (.enter 93 vs) w := by kernel_rfl
theorem r10bes_pure (G : Gr) (l : List Int) (v : Int) : Pure C1 93 [dM G.labels G.edges, dIs l, .int .i64 v] (fun y => y = .bool (l.any (besP G.edges v))) := by
  refine Pure.len2t fun hm => ?_
  have hl : (l.map dI).length = l.length := List.length_map _
  refine pure_of c1_ok (pl := pl_r10b) (G := G_r10b) Tryz.func93 rfl Tryz.ntmps93 run_r10b cok_r10b (by simp) ?_
  ((conv => whnf); repeat' ((first | refine odw ?_ | refine ify ?_ | refine ifn ?_ | refine i6 ?_ | refine ati ?_ | refine mst ?_ | refine rmd ?_ | refine ibo (fun _ => ?_) (fun _ => ?_)) <;> conv => whnf))
  refine loop_lo (ι := Nat) (fun i => i ≤ l.length ∧ ∀ y ∈ l.take i, besP G.edges v y = false) (fun i => [(7, .d (.int .i64 i)), (3, .own 3), (2, .d (.int .i64 v)), (1, .d (dIs l))]) (fun _ => [(3, .cells 27 [.d (dIs G.labels), .d (dEs G.edges)])]) (fun i => l.length - i) 0 (fun _ => rfl) ⟨Nat.zero_le _, by simp⟩ (.refl _ _) ⟨rfl, rfl, rfl, rfl, trivial⟩ ⟨rfl, trivial⟩ ?_
  rintro i ⟨hi, hne⟩
  refine sxCode_sound c1_ok (G := G_r10b) (pl := pl_r10b) _ _ _ _ (by kernel_rfl) ?_
  by_cases hlt : i < l.length
  · have hx := List.getElem?_eq_getElem hlt
    generalize l[i] = x at hx
    have hxd : (l.map dI)[i]? = some (.int .i64 x) := by rw [List.getElem?_map, hx]; rfl
    have hid := rid_pure G.labels G.edges x v
    by_cases hmm : turn ⟨x, v⟩ ∈ G.edges
    · have hnn := idE_nonneg.2 hmm
      have hany : l.any (besP G.edges v) = true := List.any_eq_true.2 ⟨x, List.mem_of_getElem? hx, decide_eq_true hmm⟩
      rw [hany]
      generalize idE G.edges (turn ⟨x, v⟩) = q at hid hnn
      (conv => whnf)
      (repeat' ((first | refine ord_ok (by (conv => whnf); (repeat' ((first | refine at_da hxd rfl ?_ | refine call_eq rfl hid ?_ | refine ify ?_ | refine ifn ?_ | refine i6 ?_ | refine ati ?_ | refine mst ?_ | refine rmd ?_ | refine ibo (fun _ => ?_) (fun _ => ?_)) <;> conv => whnf)); (all_goals (repeat' (first | exact trivial | exact rfl | refine And.intro ?_ ?_)))) ?_ | refine at_da hxd rfl ?_ | refine call_eq rfl hid ?_ | refine ify ?_ | refine ifn ?_ | refine i6 ?_ | refine ati ?_ | refine mst ?_ | refine rmd ?_ | refine ibo (fun _ => ?_) (fun _ => ?_)) <;> conv => whnf))
      exact rfl
    · have hnn : ¬ 0 ≤ idE G.edges (turn ⟨x, v⟩) := fun h => hmm (idE_nonneg.1 h)
      generalize idE G.edges (turn ⟨x, v⟩) = q at hid hnn
      (conv => whnf)
      (repeat' ((first | refine ord_ok (by (conv => whnf); (repeat' ((first | refine at_da hxd rfl ?_ | refine call_eq rfl hid ?_ | refine ify ?_ | refine ifn ?_ | refine i6 ?_ | refine ati ?_ | refine mst ?_ | refine rmd ?_ | refine ibo (fun _ => ?_) (fun _ => ?_)) <;> conv => whnf)); (all_goals (repeat' (first | exact trivial | exact rfl | refine And.intro ?_ ?_)))) ?_ | refine at_da hxd rfl ?_ | refine call_eq rfl hid ?_ | refine ify ?_ | refine ifn ?_ | refine i6 ?_ | refine ati ?_ | refine mst ?_ | refine rmd ?_ | refine ibo (fun _ => ?_) (fun _ => ?_)) <;> conv => whnf))
      refine ⟨i + 1, _, _, ⟨hlt, ?_⟩, .refl _ _, ⟨rfl, rfl, rfl, rfl, trivial⟩, ⟨rfl, trivial⟩, by omega⟩
      intro y hy
      rw [List.take_add_one, hx, Option.toList_some] at hy
      rcases List.mem_append.1 hy with hy | hy
      · exact hne y hy
      · simp at hy; subst hy; exact decide_eq_false hmm
  · have hii : l.take i = l := List.take_of_length_le (by omega)
    rw [hii] at hne
    rw [List.any_eq_false.2 (fun y hy => by rw [hne y hy]; decide)]
    ((conv => whnf); repeat' ((first | refine odw ?_ | refine ify ?_ | refine ifn ?_ | refine i6 ?_ | refine ati ?_ | refine mst ?_ | refine rmd ?_ | refine ibo (fun _ => ?_) (fun _ => ?_)) <;> conv => whnf))
    exact rfl
def pl_r10h : List (Nat × Plan) := []
def G_r10h : List FuncId := []
theorem cok_r10h : codeOk Tryz.prog G_r10h pl_r10h (Tryz.f92.body.getD .skip) = true := by kernel_rfl
theorem run_r10h (vs : Array Value) (w : World) : (callFunc 92 vs).run C1.P w = .ok (.enter 92 vs) w := by kernel_rfl
theorem r10has_pure (G : Gr) (v : Int) : Pure C1 92 [dM G.labels G.edges, .int .i64 v] (fun y => y = .bool (hasV G v)) := by
  have hl : (G.labels.map dI).length = G.labels.length := List.length_map _
  refine pure_of c1_ok (pl := pl_r10h) (G := G_r10h) Tryz.func92 rfl Tryz.ntmps92 run_r10h cok_r10h (by simp) ?_
  by_cases h0 : 0 ≤ v
  · by_cases h1 : v < G.labels.length
    · rw [hasV_yes h0 h1]
      have h2 : v < ((G.labels.map dI).length : Int) := by rw [hl]; exact h1
      ((conv => whnf); repeat' ((first | refine odw ?_ | refine ify ?_ | refine ifn ?_ | refine i6 ?_ | refine ati ?_ | refine mst ?_ | refine rmd ?_ | refine ibo (fun _ => ?_) (fun _ => ?_)) <;> conv => whnf))
      show Da.plain _ = _
      simp [Da.plain, hl, h1]
    · rw [hasV_no (fun h => h1 h.2)]
      ((conv => whnf); repeat' ((first | refine odw ?_ | refine ify ?_ | refine ifn ?_ | refine i6 ?_ | refine ati ?_ | refine mst ?_ | refine rmd ?_ | refine ibo (fun _ => ?_) (fun _ => ?_)) <;> conv => whnf))
      show Da.plain _ = _
      simp [Da.plain, hl, h1]
  · rw [hasV_no (fun h => h0 h.1)]
    ((conv => whnf); repeat' ((first | refine odw ?_ | refine ify ?_ | refine ifn ?_ | refine i6 ?_ | refine ati ?_ | refine mst ?_ | refine rmd ?_ | refine ibo (fun _ => ?_) (fun _ => ?_)) <;> conv => whnf))
    exact rfl
def pl_r10l : List (Nat × Plan) := [(4, .leaf [1, 0, 0, 0, 1, 2, 0, 0, 0, 0, 0, 0, 0, 0, 1, 2, 0, 0, 0, 0, 0, 1, 0, 0, 0, 0, 0, 0, 1, 2, 0, 0, 0] [1, 2, 3, 0, 4, 5, 6, 7, 8, 9, 10, 11, 12, 13, 14, 15, 16, 17, 18, 19, 20, 22, 23, 24, 25, 26, 27, 21, 28, 29, 30, 31, 32] [0, 0, 0, 6, 14, 31, 63, 127, 255, 255, 1023, 255, 255, 6399, 14591, 32767, 65535, 131071, 262143, 524287, 1048575, 2097151, 2097151, 2097151, 14680063, 2097151, 2097151, 102760447, 236978175, 536870911, 1073741823, 2147483647, 4294967295])]
def G_r10l : List FuncId := [92, 17, 93]
theorem cok_r10l : codeOk Tryz.prog G_r10l pl_r10l (Tryz.f39.body.getD .skip) = true := by kernel_rfl
theorem run_r10l (vs : Array Value) (w : World) : (callFunc 39 vs).run C1.P w = .ok (.enter 39 vs) w := by kernel_rfl
theorem r10linked_pure (G : Gr) (l : List Int) : Pure C1 39 [dM G.labels G.edges, dIs l] (fun y => y = .bool (linkedV G l)) := by
  refine Pure.len2t fun hm => ?_
  have hl : (l.map dI).length = l.length := List.length_map _
  refine pure_of c1_ok (pl := pl_r10l) (G := G_r10l) Tryz.func39 rfl Tryz.ntmps39 run_r10l cok_r10l (by simp) ?_
  ((conv => whnf); repeat' ((first | refine odw ?_ | refine ify ?_ | refine ifn ?_ | refine i6 ?_ | refine ati ?_ | refine mst ?_ | refine rmd ?_ | refine ibo (fun _ => ?_) (fun _ => ?_)) <;> conv => whnf))
  refine loop_lo (ι := Nat) (fun i => i ≤ l.length ∧ ∀ (j : Nat) (v : Int), j < i → l[j]? = some v → linkAt G l j v = true) (fun i => [(5, .d (.int .i64 i)), (2, .own 2), (1, .d (dIs l))]) (fun _ => [(2, .cells 27 [.d (dIs G.labels), .d (dEs G.edges)])]) (fun i => l.length - i) 0 (fun _ => rfl) ⟨Nat.zero_le _, by intro j v h; omega⟩ (.refl _ _) ⟨rfl, rfl, rfl, trivial⟩ ⟨rfl, trivial⟩ ?_
  rintro i ⟨hi, hne⟩
  refine sxCode_sound c1_ok (G := G_r10l) (pl := pl_r10l) _ _ _ _ (by kernel_rfl) ?_
  by_cases hlt : i < l.length
  · have hx := List.getElem?_eq_getElem hlt
    generalize l[i] = y at hx
    have hxd : (l.map dI)[i]? = some (.int .i64 y) := by rw [List.getElem?_map, hx]; rfl
    have h1 := r10has_pure G y
    have h2 := has06_pure (l.take i) y
    have h3 := r10bes_pure G (l.take i) y
    rw [dIs_take] at h2 h3
    have hi2 : i ≤ (l.map dI).length := by omega
    have hstep : linkAt G l i y = true → ∀ (j : Nat) (v : Int), j < i + 1 → l[j]? = some v → linkAt G l j v = true := by
      intro hyes j v hj hjv
      by_cases hji : j = i
      · subst hji; rw [hx] at hjv; cases hjv; exact hyes
      · exact hne j v (by omega) hjv
    cases hv : hasV G y with
    | false =>
      rw [hv] at h1
      rw [linkedV_no hx (by simp [linkAt, hv])]
      (conv => whnf)
      (repeat' ((first | refine ord_ok (by (conv => whnf); (repeat' ((first | refine at_da hxd rfl ?_ | refine call_eq rfl h1 ?_ | refine ify ?_ | refine ifn ?_ | refine i6 ?_ | refine ati ?_ | refine mst ?_ | refine rmd ?_ | refine ibo (fun _ => ?_) (fun _ => ?_)) <;> conv => whnf)); (all_goals (repeat' (first | exact trivial | exact rfl | refine And.intro ?_ ?_)))) ?_ | refine at_da hxd rfl ?_ | refine call_eq rfl h1 ?_ | refine ify ?_ | refine ifn ?_ | refine i6 ?_ | refine ati ?_ | refine mst ?_ | refine rmd ?_ | refine ibo (fun _ => ?_) (fun _ => ?_)) <;> conv => whnf))
      exact rfl
    | true =>
      rw [hv] at h1
      by_cases hc : y ∈ l.take i
      · rw [decide_eq_true hc] at h2
        rw [linkedV_no hx (by simp [linkAt, hc])]
        (conv => whnf)
        (repeat' ((first | refine ord_ok (by (conv => whnf); (repeat' ((first | refine at_da hxd rfl ?_ | refine call_eq rfl h1 ?_ | refine hi_is rfl hi2 ?_ | refine call_eq rfl h2 ?_ | refine ify ?_ | refine ifn ?_ | refine i6 ?_ | refine ati ?_ | refine mst ?_ | refine rmd ?_ | refine ibo (fun _ => ?_) (fun _ => ?_)) <;> conv => whnf)); (all_goals (repeat' (first | exact trivial | exact rfl | refine And.intro ?_ ?_)))) ?_ | refine at_da hxd rfl ?_ | refine call_eq rfl h1 ?_ | refine hi_is rfl hi2 ?_ | refine call_eq rfl h2 ?_ | refine ify ?_ | refine ifn ?_ | refine i6 ?_ | refine ati ?_ | refine mst ?_ | refine rmd ?_ | refine ibo (fun _ => ?_) (fun _ => ?_)) <;> conv => whnf))
        exact rfl
      · rw [decide_eq_false hc] at h2
        by_cases h0 : i = 0
        · have hyes : linkAt G l i y = true := by simp [linkAt, hv, h0]
          (conv => whnf)
          (repeat' ((first | refine ord_ok (by (conv => whnf); (repeat' ((first | refine at_da hxd rfl ?_ | refine call_eq rfl h1 ?_ | refine hi_is rfl hi2 ?_ | refine call_eq rfl h2 ?_ | refine ify ?_ | refine ifn ?_ | refine i6 ?_ | refine ati ?_ | refine mst ?_ | refine rmd ?_ | refine ibo (fun _ => ?_) (fun _ => ?_)) <;> conv => whnf)); (all_goals (repeat' (first | exact trivial | exact rfl | refine And.intro ?_ ?_)))) ?_ | refine at_da hxd rfl ?_ | refine call_eq rfl h1 ?_ | refine hi_is rfl hi2 ?_ | refine call_eq rfl h2 ?_ | refine ify ?_ | refine ifn ?_ | refine i6 ?_ | refine ati ?_ | refine mst ?_ | refine rmd ?_ | refine ibo (fun _ => ?_) (fun _ => ?_)) <;> conv => whnf))
          exact ⟨i + 1, _, _, ⟨hlt, hstep hyes⟩, .refl _ _, ⟨rfl, rfl, rfl, trivial⟩, ⟨rfl, trivial⟩, by omega⟩
        · by_cases hb : (l.take i).any (besP G.edges y) = true
          · have hyes : linkAt G l i y = true := by simp only [linkAt, hv, hb, decide_eq_false hc]; simp
            rw [hb] at h3
            (conv => whnf)
            (repeat' ((first | refine ord_ok (by (conv => whnf); (repeat' ((first | refine at_da hxd rfl ?_ | refine call_eq rfl h1 ?_ | refine hi_is rfl hi2 ?_ | refine call_eq rfl h2 ?_ | refine call_eq rfl h3 ?_ | refine ify ?_ | refine ifn ?_ | refine i6 ?_ | refine ati ?_ | refine mst ?_ | refine rmd ?_ | refine ibo (fun _ => ?_) (fun _ => ?_)) <;> conv => whnf)); (all_goals (repeat' (first | exact trivial | exact rfl | refine And.intro ?_ ?_)))) ?_ | refine at_da hxd rfl ?_ | refine call_eq rfl h1 ?_ | refine hi_is rfl hi2 ?_ | refine call_eq rfl h2 ?_ | refine call_eq rfl h3 ?_ | refine ify ?_ | refine ifn ?_ | refine i6 ?_ | refine ati ?_ | refine mst ?_ | refine rmd ?_ | refine ibo (fun _ => ?_) (fun _ => ?_)) <;> conv => whnf))
            exact ⟨i + 1, _, _, ⟨hlt, hstep hyes⟩, .refl _ _, ⟨rfl, rfl, rfl, trivial⟩, ⟨rfl, trivial⟩, by omega⟩
          · have hno : linkAt G l i y = false := by simp only [linkAt, hv, Bool.eq_false_iff.2 hb, decide_eq_false h0]; simp
            rw [linkedV_no hx hno]
            rw [Bool.eq_false_iff.2 hb] at h3
            (conv => whnf)
            (repeat' ((first | refine ord_ok (by (conv => whnf); (repeat' ((first | refine at_da hxd rfl ?_ | refine call_eq rfl h1 ?_ | refine hi_is rfl hi2 ?_ | refine call_eq rfl h2 ?_ | refine call_eq rfl h3 ?_ | refine ify ?_ | refine ifn ?_ | refine i6 ?_ | refine ati ?_ | refine mst ?_ | refine rmd ?_ | refine ibo (fun _ => ?_) (fun _ => ?_)) <;> conv => whnf)); (all_goals (repeat' (first | exact trivial | exact rfl | refine And.intro ?_ ?_)))) ?_ | refine at_da hxd rfl ?_ | refine call_eq rfl h1 ?_ | refine hi_is rfl hi2 ?_ | refine call_eq rfl h2 ?_ | refine call_eq rfl h3 ?_ | refine ify ?_ | refine ifn ?_ | refine i6 ?_ | refine ati ?_ | refine mst ?_ | refine rmd ?_ | refine ibo (fun _ => ?_) (fun _ => ?_)) <;> conv => whnf))
            exact rfl
  · rw [linkedV_yes (fun j v h => hne j v (by have := (List.getElem?_eq_some_iff.1 h).1; omega) h)]
    ((conv => whnf); repeat' ((first | refine odw ?_ | refine ify ?_ | refine ifn ?_ | refine i6 ?_ | refine ati ?_ | refine mst ?_ | refine rmd ?_ | refine ibo (fun _ => ?_) (fun _ => ?_)) <;> conv => whnf))
    exact rfl
end Go.Proofs.YteigfapjiekdnaaGreatDoor
end

section
/- sets: Has (slices.BinarySearch at ints), kept, But; slices.ContainsFunc. -/
namespace Go.Proofs.YteigfapjiekdnaaGreatDoor
open Go.Sx Go.RowKit Go.Reg Go.Gr

set_option maxRecDepth 100000
def pl_scf : List (Nat × Plan) := []
def G_scf : List FuncId := [89]
theorem cok_scf : codeOk Tryz.prog G_scf pl_scf (Tryz.f86.body.getD .skip) = true := by kernel_rfl
theorem run_scf (vs : Array Value) (w : World) : (callFunc 86 vs).run C1.P w = .ok (.enter 86 vs) w := by kernel_rfl
theorem containsF_pure (l : List Int) (g : FuncId) (cs : List Da) (p : Int → Bool) (hp : ∀ x ∈ l, Pure C1 g (.int .i64 x :: cs) (fun y => y = .bool (p x))) : Pure C1 86 [dIs l, .func (.func g) [] cs] (fun y => y = .bool (l.any p)) := by
  refine pure_of c1_ok (pl := pl_scf) (G := G_scf) Tryz.func86 rfl Tryz.ntmps86 run_scf cok_scf (by simp) ?_
  (conv => whnf)
  (repeat' ((first | refine ord_ok (by (conv => whnf); (repeat' ((first | refine call_eq rfl (indexF_pure l g cs p hp) ?_ | refine ify ?_ | refine ifn ?_ | refine i6 ?_ | refine ati ?_ | refine mst ?_ | refine rmd ?_ | refine ibo (fun _ => ?_) (fun _ => ?_)) <;> conv => whnf)); (all_goals (repeat' (first | exact trivial | exact rfl | refine And.intro ?_ ?_)))) ?_ | refine call_eq rfl (indexF_pure l g cs p hp) ?_ | refine ify ?_ | refine ifn ?_ | refine i6 ?_ | refine ati ?_ | refine mst ?_ | refine rmd ?_ | refine ibo (fun _ => ?_) (fun _ => ?_)) <;> conv => whnf))
  show Da.plain _ = _
  have := idxF_nn l p
  cases h : l.any p <;> simp [Da.plain, this, h]
end Go.Proofs.YteigfapjiekdnaaGreatDoor
end
