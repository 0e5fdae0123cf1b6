/- Merged: Qif Qig Qih. -/
import Derived.Test.YteigfapjiekdnaaGreatDoorKeaj
import Derived.Test.YteigfapjiekdnaaGreatDoorKeak
import Derived.Test.YteigfapjiekdnaaGreatDoorKeal
import Derived.Test.YteigfapjiekdnaaGreatDoorKeao
section
/- quick: fits, images, Images. -/
namespace Go.Gr
open Go.Proofs.YteigfapjiekdnaaGreatDoor
def plOf (p : Pt) (i : Nat) : Int := (p.labels[i]?).getD 0
def phOf (p : Pt) (i j : Nat) : Bool := decide (turn ⟨(i : Int), (j : Int)⟩ ∈ p.edges)
def hasG (G : Gr) (u v : Int) : Bool := decide (turn ⟨u, v⟩ ∈ G.edges)
/-- may a vertex be next in an image of a pattern? -/
def okI (G : Gr) (p : Pt) (whole : Bool) (l : List Int) (v : Int) : Bool := fitV (labelV G) (hasG G) (plOf p) (phOf p) whole l v
def okB (G : Gr) (p : Pt) (whole : Bool) (n i : Nat) (u v : Int) : Bool := (!phOf p i n || hasG G u v) && (!whole || !hasG G u v || phOf p i n)
theorem okI_label {G : Gr} {p : Pt} {whole : Bool} {l : List Int} {v : Int} (h : labelV G v ≠ plOf p l.length) : okI G p whole l v = false := by simp [okI, fitV, h]
theorem okI_mem {G : Gr} {p : Pt} {whole : Bool} {l : List Int} {v : Int} (h : v ∈ l) : okI G p whole l v = false := by simp [okI, fitV, h]
theorem okI_at {G : Gr} {p : Pt} {whole : Bool} {l : List Int} {v u : Int} {i : Nat} (hx : l[i]? = some u) (h : okB G p whole l.length i u v = false) : okI G p whole l v = false := by
  unfold okI fitV
  rw [Bool.and_eq_false_iff]; right
  rw [Bool.and_eq_false_iff]; right
  rw [List.all_eq_false]
  refine ⟨i, List.mem_range.2 (List.getElem?_eq_some_iff.1 hx).1, ?_⟩
  rw [hx]
  simpa [okB] using h
theorem okI_yes {G : Gr} {p : Pt} {whole : Bool} {l : List Int} {v : Int} (h1 : labelV G v = plOf p l.length) (h2 : v ∉ l) (h : ∀ k u, k < l.length → l[k]? = some u → okB G p whole l.length k u v = true) : okI G p whole l v = true := by
  unfold okI fitV
  rw [Bool.and_eq_true, Bool.and_eq_true]
  refine ⟨decide_eq_true h1, by simpa using h2, ?_⟩
  rw [List.all_eq_true]
  intro i hi
  have hi := List.mem_range.1 hi
  rw [List.getElem?_eq_getElem hi]
  exact h i _ hi (List.getElem?_eq_getElem hi)
theorem okI_not {G : Gr} {p : Pt} {whole : Bool} {l : List Int} {v : Int} (h : okI G p whole l v = true) : v ∉ l := fun hm => by rw [okI_mem hm] at h; cases h
theorem imgs_len {n : Nat} {ok : List Int → Int → Bool} : ∀ (k : Nat) (l : List Int), (imgs n ok k l).length ≤ n ^ k
  | 0, l => by simp [imgs]
  | k + 1, l => by
    unfold imgs
    rw [List.length_flatMap, Nat.pow_succ, Nat.mul_comm]
    have h1 : (((List.range n).filter fun v : Nat => ok l v).map fun v : Nat => (imgs n ok k (l ++ [(v : Int)])).length).sum ≤ ((List.range n).filter fun v : Nat => ok l v).length * n ^ k := by
      generalize (List.range n).filter (fun v : Nat => ok l v) = R
      induction R with
      | nil => simp
      | cons v R ih =>
        have := imgs_len (n := n) (ok := ok) k (l ++ [(v : Int)])
        simp only [List.map_cons, List.sum_cons, List.length_cons, Nat.add_mul, Nat.one_mul]; omega
    refine Nat.le_trans h1 (Nat.mul_le_mul_right _ ?_)
    exact Nat.le_trans (List.length_filter_le _ _) (by simp)
def outF (n : Nat) (ok : List Int → Int → Bool) (k : Nat) (l : List Int) (v : Nat) : List (List Int) := ((List.range v).filter fun v : Nat => ok l v).flatMap fun v : Nat => imgs n ok k (l ++ [(v : Int)])
theorem outF_step {n : Nat} {ok : List Int → Int → Bool} {k : Nat} {l : List Int} {v : Nat} : outF n ok k l (v + 1) = outF n ok k l v ++ if ok l v then imgs n ok k (l ++ [(v : Int)]) else [] := by
  unfold outF
  rw [List.range_succ, List.filter_append, List.flatMap_append]
  congr 1
  by_cases h : ok l v <;> simp [h]
theorem outF_len {n : Nat} {ok : List Int → Int → Bool} {k : Nat} {l : List Int} : ∀ v, (outF n ok k l v).length ≤ v * n ^ k
  | 0 => by simp [outF]
  | v + 1 => by
    have h1 := outF_len (n := n) (ok := ok) (k := k) (l := l) v
    have h2 := imgs_len (n := n) (ok := ok) k (l ++ [(v : Int)])
    rw [outF_step, List.length_append, Nat.add_mul, Nat.one_mul]
    split
    · omega
    · simp only [List.length_nil]; omega
end Go.Gr
namespace Go.Proofs.YteigfapjiekdnaaGreatDoor
open Go.Sx Go.RowKit Go.Reg Go.Gr

set_option maxRecDepth 100000
def dLL (X : List (List Int)) : Da := .list 1 (X.map dIs)
theorem clip_fn : ClipFn C1 126 := by
  intro w a n c hn hc
  refine ⟨by kernel_rfl, ?_⟩
  show Calls Tryz.prog _ _ _ _
  go_enter Tryz.func126, Tryz.ntmps126
  go_wp2
  go_ret
  exact ⟨rfl, rfl⟩
def pl_qfi : List (Nat × Plan) := [(2, .leaf [0, 0, 2, 0, 1, 0, 0, 1, 0, 0, 0, 0, 2, 0] [0, 1, 3, 5, 4, 6, 7, 2, 8, 9, 10, 11, 12, 13] [0, 0, 3, 0, 8, 0, 56, 120, 255, 511, 1023, 1023, 4095, 8191]),
  (7, .leaf [0, 0, 0, 2, 1, 0, 0, 2, 0, 0] [0, 1, 2, 5, 6, 4, 3, 7, 8, 9] [0, 0, 0, 7, 0, 0, 0, 127, 255, 511])]
def G_qfi : List FuncId := [13, 136, 95, 151]
theorem cok_qfi : codeOk Tryz.prog G_qfi pl_qfi (Tryz.f125.body.getD .skip) = true := by kernel_rfl
theorem run_qfi (vs : Array Value) (w : World) : (callFunc 125 vs).run C1.P w = .ok (.enter 125 vs) w := by kernel_rfl
set_option maxHeartbeats 4000000 in
theorem fits_pure (G : Gr) (hG : G.Ok) (p : Pt) (l : List Int) (v : Int) (whole : Bool) (hl : l.length < p.labels.length) (h8 : p.labels.length ≤ 8) (hpe : p.edges.length ≤ 100000) : Pure C1 125 [dG G, dPt p, dIs l, .int .i64 v, .bool whole] (fun y => y = .bool (okI G p whole l v)) := by
  have hdl : (l.map dI).length = l.length := List.length_map _
  have h1 := label_pure G v
  have h2 := contains_pure l v
  have hpx : (p.labels.map dI)[l.length]? = some (.int .i64 (plOf p l.length)) := by
    rw [List.getElem?_map, List.getElem?_eq_getElem hl]
    unfold plOf
    rw [List.getElem?_eq_getElem hl]; rfl
  refine pure_of c1_ok (pl := pl_qfi) (G := G_qfi) Tryz.func125 rfl Tryz.ntmps125 run_qfi cok_qfi (by simp) ?_
  rcases Decidable.em (labelV G v ≠ plOf p l.length) with hlab | hlab
  · rw [okI_label hlab]
    (conv => whnf)
    (repeat' ((first | refine ord_ok (by (conv => whnf); (repeat' ((first | refine call_eq rfl h1 ?_ | refine at_da hpx (by omega) ?_ | refine ify ?_ | refine ifn ?_ | refine i6 ?_ | refine ati ?_ | refine mst ?_ | refine rmd ?_ | refine ibo (fun _ => ?_) (fun _ => ?_)) <;> conv => whnf)); (all_goals (repeat' (first | exact trivial | exact rfl | refine And.intro ?_ ?_)))) ?_ | refine call_eq rfl h1 ?_ | refine at_da hpx (by omega) ?_ | refine ify ?_ | refine ifn ?_ | refine i6 ?_ | refine ati ?_ | refine mst ?_ | refine rmd ?_ | refine ibo (fun _ => ?_) (fun _ => ?_)) <;> conv => whnf))
    exact rfl
  have hlab : labelV G v = plOf p l.length := Decidable.not_not.1 hlab
  by_cases hm : v ∈ l
  · rw [okI_mem hm]
    rw [decide_eq_true hm] at h2
    (conv => whnf)
    (repeat' ((first | refine ord_ok (by (conv => whnf); (repeat' ((first | refine call_eq rfl h1 ?_ | refine at_da hpx (by omega) ?_ | refine call_eq rfl h2 ?_ | refine ify ?_ | refine ifn ?_ | refine i6 ?_ | refine ati ?_ | refine mst ?_ | refine rmd ?_ | refine ibo (fun _ => ?_) (fun _ => ?_)) <;> conv => whnf)); (all_goals (repeat' (first | exact trivial | exact rfl | refine And.intro ?_ ?_)))) ?_ | refine call_eq rfl h1 ?_ | refine at_da hpx (by omega) ?_ | refine call_eq rfl h2 ?_ | refine ify ?_ | refine ifn ?_ | refine i6 ?_ | refine ati ?_ | refine mst ?_ | refine rmd ?_ | refine ibo (fun _ => ?_) (fun _ => ?_)) <;> conv => whnf))
    exact rfl
  rw [decide_eq_false hm] at h2
  (conv => whnf)
  (repeat' ((first | refine ord_ok (by (conv => whnf); (repeat' ((first | refine call_eq rfl h1 ?_ | refine at_da hpx (by omega) ?_ | refine call_eq rfl h2 ?_ | refine ify ?_ | refine ifn ?_ | refine i6 ?_ | refine ati ?_ | refine mst ?_ | refine rmd ?_ | refine ibo (fun _ => ?_) (fun _ => ?_)) <;> conv => whnf)); (all_goals (repeat' (first | exact trivial | exact rfl | refine And.intro ?_ ?_)))) ?_ | refine call_eq rfl h1 ?_ | refine at_da hpx (by omega) ?_ | refine call_eq rfl h2 ?_ | refine ify ?_ | refine ifn ?_ | refine i6 ?_ | refine ati ?_ | refine mst ?_ | refine rmd ?_ | refine ibo (fun _ => ?_) (fun _ => ?_)) <;> conv => whnf))
  refine loop_lo (ι := Nat) (fun i => i ≤ l.length ∧ ∀ k u, k < i → l[k]? = some u → okB G p whole l.length k u v = true) (fun i => [(34, .d (.int .i64 i)), (33, .d (.int .i64 l.length)), (32, .d (dIs l)), (11, .d (.int .i64 l.length)), (6, .own 6), (4, .d (.bool whole)), (3, .d (.int .i64 v)), (0, .d (dG G))]) (fun _ => [(6, .cells 38 [.d (dIs p.labels), .d (dEs p.edges)])]) (fun i => l.length - i) 0 (fun _ => rfl) ⟨Nat.zero_le _, (by intro k u h; omega)⟩ (.refl _ _) ⟨rfl, by rw [← hdl]; rfl, rfl, by rw [← hdl]; rfl, rfl, rfl, rfl, rfl, trivial⟩ ⟨rfl, trivial⟩ ?_
  rintro i ⟨hi, hok⟩
  refine sxCode_sound c1_ok (G := G_qfi) (pl := pl_qfi) _ _ _ _ (by kernel_rfl) ?_
  by_cases hil : i < l.length
  · have hx := List.getElem?_eq_getElem hil
    generalize l[i] = u at hx
    have hxd : (l.map dI)[i]? = some (.int .i64 u) := by rw [List.getElem?_map, hx]; rfl
    have h3 := hasE_pure G hG u v
    have h4 := phas_pure p i l.length (by omega)
    have hob : okB G p whole l.length i u v = ((!decide (turn ⟨(i : Int), (l.length : Int)⟩ ∈ p.edges) || decide (turn ⟨u, v⟩ ∈ G.edges)) && (!whole || !decide (turn ⟨u, v⟩ ∈ G.edges) || decide (turn ⟨(i : Int), (l.length : Int)⟩ ∈ p.edges))) := rfl
    have hst : okB G p whole l.length i u v = true → ∀ k w, k < i + 1 → l[k]? = some w → okB G p whole l.length k w v = true := by
      intro hb k w hk hw
      rcases Nat.lt_or_ge k i with hlt | hlt
      · exact hok k w hlt hw
      · have : k = i := by omega
        subst this
        rw [hx] at hw; cases hw; exact hb
    have hno := fun hb => okI_at (G := G) (p := p) (whole := whole) (v := v) hx hb
    cases hw : decide (turn ⟨(i : Int), (l.length : Int)⟩ ∈ p.edges) <;> cases hs : decide (turn ⟨u, v⟩ ∈ G.edges) <;> cases whole <;> rw [hw] at h4 hob <;> rw [hs] at h3 hob <;> simp only [Bool.not_true, Bool.not_false, Bool.and_true, Bool.and_false, Bool.or_true, Bool.or_false] at hob <;> (conv => whnf) <;> (repeat' ((first | refine ord_ok (by (conv => whnf); (repeat' ((first | refine at_da hxd rfl ?_ | refine call_eq rfl h3 ?_ | refine call_eq rfl h4 ?_ | refine ify ?_ | refine ifn ?_ | refine i6 ?_ | refine ati ?_ | refine mst ?_ | refine rmd ?_ | refine ibo (fun _ => ?_) (fun _ => ?_)) <;> conv => whnf)); (all_goals (repeat' (first | exact trivial | exact rfl | refine And.intro ?_ ?_)))) ?_ | refine at_da hxd rfl ?_ | refine call_eq rfl h3 ?_ | refine call_eq rfl h4 ?_ | refine ify ?_ | refine ifn ?_ | refine i6 ?_ | refine ati ?_ | refine mst ?_ | refine rmd ?_ | refine ibo (fun _ => ?_) (fun _ => ?_)) <;> conv => whnf))
    all_goals first | (exact ⟨i + 1, _, _, ⟨by omega, hst hob⟩, .refl _ _, ⟨rfl, rfl, rfl, rfl, rfl, rfl, rfl, rfl, trivial⟩, ⟨rfl, trivial⟩, by omega⟩) | (rw [hno hob]; exact rfl)
  · rw [okI_yes hlab hm (fun k u hk hx => hok k u (by omega) hx)]
    ((conv => whnf); repeat' ((first | refine odw ?_ | refine ify ?_ | refine ifn ?_ | refine i6 ?_ | refine ati ?_ | refine mst ?_ | refine rmd ?_ | refine ibo (fun _ => ?_) (fun _ => ?_)) <;> conv => whnf))
    exact rfl
theorem pow_le8 {n k : Nat} (hn : n ≤ 10) (hk : k ≤ 8) : n ^ k ≤ 100000000 :=
  Nat.le_trans (Nat.pow_le_pow_left hn k) (Nat.pow_le_pow_right (n := 10) (by omega) hk)
def pl_qim : List (Nat × Plan) := [(8, .split 2 7 (.split 4 6 (.leaf [0, 0, 1, 0, 2, 0, 6, 3, 0, 2, 3, 0] [0, 1, 3, 5, 8, 2, 4, 6, 7, 9, 10, 11] [0, 0, 0, 0, 8, 0, 56, 124, 0, 510, 1023, 2047]) (.leaf [0, 0, 1, 0, 2, 0, 6, 3, 0, 2, 3, 0] [0, 1, 3, 5, 8, 2, 6, 4, 7, 9, 10, 11] [0, 0, 0, 0, 104, 0, 32, 124, 0, 510, 1023, 2047])) (.split 4 6 (.leaf [0, 0, 1, 0, 2, 0, 6, 3, 0, 2, 3, 0] [0, 1, 3, 5, 8, 4, 6, 7, 2, 9, 10, 11] [0, 0, 248, 0, 8, 0, 56, 120, 0, 510, 1023, 2047]) (.leaf [0, 0, 1, 0, 2, 0, 6, 3, 0, 2, 3, 0] [0, 1, 3, 5, 8, 6, 4, 7, 2, 9, 10, 11] [0, 0, 248, 0, 104, 0, 32, 120, 0, 510, 1023, 2047])))]
def G_qim : List FuncId := [12, 125, 126, 67]
theorem cok_qim : codeOk Tryz.prog G_qim pl_qim (Tryz.f67.body.getD .skip) = true := by kernel_rfl
theorem run_qim (vs : Array Value) (w : World) : (callFunc 67 vs).run C1.P w = .ok (.enter 67 vs) w := by kernel_rfl
set_option maxHeartbeats 4000000 in
theorem images_pure (G : Gr) (hG : G.Ok) (p : Pt) (whole : Bool) (h8 : p.labels.length ≤ 8) (hG10 : G.labels.length ≤ 10) (hpe : p.edges.length ≤ 100000) : ∀ (k : Nat) (l : List Int), l.length + k = p.labels.length → Pure C1 67 [dG G, dPt p, dIs l, .bool whole] (fun y => y = dLL (imgs G.labels.length (okI G p whole) k l))
  | 0, l, hk => by
    have hdl : (l.map dI).length = l.length := List.length_map _
    have hdp : (p.labels.map dI).length = p.labels.length := List.length_map _
    refine pure_of c1_ok (pl := pl_qim) (G := G_qim) Tryz.func67 rfl Tryz.ntmps67 run_qim cok_qim (by simp) ?_
    ((conv => whnf); repeat' ((first | refine odw ?_ | refine ify ?_ | refine ifn ?_ | refine i6 ?_ | refine ati ?_ | refine mst ?_ | refine rmd ?_ | refine ibo (fun _ => ?_) (fun _ => ?_)) <;> conv => whnf))
    refine call_mksl 18 rfl rfl (clone_sl l (by omega)) ?_
    rintro ds rfl
    ((conv => whnf); repeat' ((first | refine odw ?_ | refine ify ?_ | refine ifn ?_ | refine i6 ?_ | refine ati ?_ | refine mst ?_ | refine rmd ?_ | refine ibo (fun _ => ?_) (fun _ => ?_)) <;> conv => whnf))
    refine op_again c1_ok (G := []) (.frz 18 rfl (.refl _ _)) (.inr rfl) ?_
    ((conv => whnf); repeat' ((first | refine odw ?_ | refine ify ?_ | refine ifn ?_ | refine i6 ?_ | refine ati ?_ | refine mst ?_ | refine rmd ?_ | refine ibo (fun _ => ?_) (fun _ => ?_)) <;> conv => whnf))
    exact rfl
  | k + 1, l, hk => by
    have hdl : (l.map dI).length = l.length := List.length_map _
    have hdp : (p.labels.map dI).length = p.labels.length := List.length_map _
    have hlen := len_pure G
    have hpow : G.labels.length ^ k ≤ 100000000 := pow_le8 hG10 (by omega)
    refine pure_of c1_ok (pl := pl_qim) (G := G_qim) Tryz.func67 rfl Tryz.ntmps67 run_qim cok_qim (by simp) ?_
    (conv => whnf)
    (repeat' ((first | refine ord_ok (by (conv => whnf); (repeat' ((first | refine call_eq rfl hlen ?_ | refine ify ?_ | refine ifn ?_ | refine i6 ?_ | refine ati ?_ | refine mst ?_ | refine rmd ?_ | refine ibo (fun _ => ?_) (fun _ => ?_)) <;> conv => whnf)); (all_goals (repeat' (first | exact trivial | exact rfl | refine And.intro ?_ ?_)))) ?_ | refine call_eq rfl hlen ?_ | refine ify ?_ | refine ifn ?_ | refine i6 ?_ | refine ati ?_ | refine mst ?_ | refine rmd ?_ | refine ibo (fun _ => ?_) (fun _ => ?_)) <;> conv => whnf))
    refine loop_lo (ι := Nat) (fun v => v ≤ G.labels.length) (fun v => [(22, .d (.int .i64 v)), (21, .d (.int .i64 G.labels.length)), (9, .own 300), (5, .own 5), (3, .d (.bool whole)), (2, .d (dIs l)), (0, .d (dG G))]) (fun v => [(5, .cells 38 [.d (dIs p.labels), .d (dEs p.edges)]), (300, .slice 22 1 ((outF G.labels.length (okI G p whole) k l v).map dIs))]) (fun v => G.labels.length - v) 0 (fun _ => rfl) (Nat.zero_le _) (.own 9 300 22 1 rfl rfl (.refl _ _)) ⟨rfl, rfl, rfl, rfl, rfl, rfl, rfl, trivial⟩ ⟨rfl, rfl, trivial⟩ ?_
    intro v hv
    refine sxCode_sound c1_ok (G := G_qim) (pl := pl_qim) _ _ _ _ (by kernel_rfl) ?_
    by_cases hvl : v < G.labels.length
    · have hfi := fits_pure G hG p l v whole (by omega) h8 hpe
      have hih := images_pure G hG p whole h8 hG10 hpe k (l ++ [(v : Int)]) (by rw [List.length_append, List.length_singleton]; omega)
      rw [show dIs (l ++ [(v : Int)]) = .list 1 (l.map dI ++ [.int .i64 v]) by simp [dIs, dI]] at hih
      have hst := outF_step (n := G.labels.length) (ok := okI G p whole) (k := k) (l := l) (v := v)
      have hol := outF_len (n := G.labels.length) (ok := okI G p whole) (k := k) (l := l) v
      have hil := imgs_len (n := G.labels.length) (ok := okI G p whole) k (l ++ [(v : Int)])
      have hmul : v * G.labels.length ^ k ≤ 10 * 100000000 := Nat.mul_le_mul (by omega) hpow
      have hom : ((outF G.labels.length (okI G p whole) k l v).map dIs).length ≤ 1000000000 := by rw [List.length_map]; omega
      have him : ((imgs G.labels.length (okI G p whole) k (l ++ [(v : Int)])).map dIs).length ≤ 100000000 := by rw [List.length_map]; omega
      cases hf : okI G p whole l v with
      | false =>
        rw [hf] at hfi hst
        rw [if_neg (by decide), List.append_nil] at hst
        (conv => whnf)
        (repeat' ((first | refine ord_ok (by (conv => whnf); (repeat' ((first | refine call_eqb tab rfl hfi rfl ?_ | refine ify ?_ | refine ifn ?_ | refine i6 ?_ | refine ati ?_ | refine mst ?_ | refine rmd ?_ | refine ibo (fun _ => ?_) (fun _ => ?_)) <;> conv => whnf)); (all_goals (repeat' (first | exact trivial | exact rfl | refine And.intro ?_ ?_)))) ?_ | refine call_eqb tab rfl hfi rfl ?_ | refine ify ?_ | refine ifn ?_ | refine i6 ?_ | refine ati ?_ | refine mst ?_ | refine rmd ?_ | refine ibo (fun _ => ?_) (fun _ => ?_)) <;> conv => whnf))
        exact ⟨v + 1, _, _, by omega, .refl _ _, ⟨rfl, rfl, rfl, rfl, rfl, rfl, rfl, trivial⟩, ⟨rfl, slice_is (by rw [hst]), trivial⟩, by omega⟩
      | true =>
        rw [hf] at hfi hst
        rw [if_pos rfl] at hst
        (conv => whnf)
        (repeat' ((first | refine ord_ok (by (conv => whnf); (repeat' ((first | refine call_eqb tab rfl hfi rfl ?_ | refine call_clip 400 rfl rfl clip_fn fun a => ?_ | refine op_appClip 400 38 35 c1_ok rfl rfl rfl rfl (by decide) (by decide) rfl rfl rfl rfl (by simp) rfl rfl rfl (mostOf_le (by simp only [List.length_map, List.length_cons, List.length_nil]; omega) rfl rfl) rfl ⟨rfl, rfl, rfl, rfl, trivial⟩ ?_ | refine call_frz 38 rfl ?_ | refine call_eq rfl hih ?_ | refine ify ?_ | refine ifn ?_ | refine i6 ?_ | refine ati ?_ | refine mst ?_ | refine rmd ?_ | refine ibo (fun _ => ?_) (fun _ => ?_)) <;> conv => whnf)); (all_goals (repeat' (first | exact trivial | exact rfl | refine And.intro ?_ ?_)))) ?_ | refine call_eqb tab rfl hfi rfl ?_ | refine call_clip 400 rfl rfl clip_fn fun a => ?_ | refine op_appClip 400 38 35 c1_ok rfl rfl rfl rfl (by decide) (by decide) rfl rfl rfl rfl (by simp) rfl rfl rfl (mostOf_le (by simp only [List.length_map, List.length_cons, List.length_nil]; omega) rfl rfl) rfl ⟨rfl, rfl, rfl, rfl, trivial⟩ ?_ | refine call_frz 38 rfl ?_ | refine call_eq rfl hih ?_ | refine ify ?_ | refine ifn ?_ | refine i6 ?_ | refine ati ?_ | refine mst ?_ | refine rmd ?_ | refine ibo (fun _ => ?_) (fun _ => ?_)) <;> conv => whnf))
        exact ⟨v + 1, _, _, by omega, .refl _ _, ⟨rfl, rfl, rfl, rfl, rfl, rfl, rfl, trivial⟩, ⟨rfl, slice_is (by rw [hst, List.map_append]), trivial⟩, by omega⟩
    · have hve : v = G.labels.length := by omega
      subst hve
      ((conv => whnf); repeat' ((first | refine odw ?_ | refine ify ?_ | refine ifn ?_ | refine i6 ?_ | refine ati ?_ | refine mst ?_ | refine rmd ?_ | refine ibo (fun _ => ?_) (fun _ => ?_)) <;> conv => whnf))
      exact rfl
end Go.Proofs.YteigfapjiekdnaaGreatDoor
end

section
/- quick: Images. ref12: Images. -/
namespace Go.Proofs.YteigfapjiekdnaaGreatDoor
open Go.Sx Go.RowKit Go.Reg Go.Gr

set_option maxRecDepth 100000
theorem rightP_some {p : Pt} {c : Int} {i : Nat} (h : pErr p = some (c, i)) : ∃ s, rightP p = dF c i s := by
  unfold pErr at h
  unfold rightP
  split at h
  · rename_i x hl
    cases h
    rw [hl]
    exact ⟨_, rfl⟩
  · rename_i hl
    rw [hl]
    simp only
    rw [h]
    exact ⟨_, rfl⟩
def imagesY (G : Gr) (p : Pt) (whole : Bool) : Da := if pErr p = none ∧ p.labels ≠ [] then dLL (imgs G.labels.length (okI G p whole) p.labels.length []) else .nils
def pl_qiI : List (Nat × Plan) := []
def G_qiI : List FuncId := [31, 67]
theorem cok_qiI : codeOk Tryz.prog G_qiI pl_qiI (Tryz.f28.body.getD .skip) = true := by kernel_rfl
theorem run_qiI (vs : Array Value) (w : World) : (callFunc 28 vs).run C1.P w = .ok (.enter 28 vs) w := by kernel_rfl
theorem qimages_pure (G : Gr) (hG : G.Ok) (p : Pt) (whole : Bool) (hG10 : G.labels.length ≤ 10) (hpl : p.labels.length ≤ 9000000000000000000) (hpe : p.edges.length ≤ 100000) : Pure C1 28 [dG G, dPt p, .bool whole] (fun y => y = imagesY G p whole) := by
  have hdp : (p.labels.map dI).length = p.labels.length := List.length_map _
  have hr := pright_pure p (by omega) (by omega)
  refine pure_of c1_ok (pl := pl_qiI) (G := G_qiI) Tryz.func28 rfl Tryz.ntmps28 run_qiI cok_qiI (by simp) ?_
  cases he : pErr p with
  | some x =>
    obtain ⟨c, i⟩ := x
    obtain ⟨s, hs⟩ := rightP_some he
    rw [hs] at hr
    have e : imagesY G p whole = .nils := by unfold imagesY; rw [if_neg (fun h => by rw [he] at h; cases h.1)]
    rw [e]
    (conv => whnf)
    (repeat' ((first | refine ord_ok (by (conv => whnf); (repeat' ((first | refine call_eq rfl hr ?_ | refine ify ?_ | refine ifn ?_ | refine i6 ?_ | refine ati ?_ | refine mst ?_ | refine rmd ?_ | refine ibo (fun _ => ?_) (fun _ => ?_)) <;> conv => whnf)); (all_goals (repeat' (first | exact trivial | exact rfl | refine And.intro ?_ ?_)))) ?_ | refine call_eq rfl hr ?_ | refine ify ?_ | refine ifn ?_ | refine i6 ?_ | refine ati ?_ | refine mst ?_ | refine rmd ?_ | refine ibo (fun _ => ?_) (fun _ => ?_)) <;> conv => whnf))
    exact rfl
  | none =>
    rw [rightP_none he] at hr
    by_cases h0 : p.labels.length = 0
    · have e : imagesY G p whole = .nils := by unfold imagesY; rw [if_neg (fun h => h.2 (List.eq_nil_of_length_eq_zero h0))]
      rw [e]
      (conv => whnf)
      (repeat' ((first | refine ord_ok (by (conv => whnf); (repeat' ((first | refine call_eq rfl hr ?_ | refine ify ?_ | refine ifn ?_ | refine i6 ?_ | refine ati ?_ | refine mst ?_ | refine rmd ?_ | refine ibo (fun _ => ?_) (fun _ => ?_)) <;> conv => whnf)); (all_goals (repeat' (first | exact trivial | exact rfl | refine And.intro ?_ ?_)))) ?_ | refine call_eq rfl hr ?_ | refine ify ?_ | refine ifn ?_ | refine i6 ?_ | refine ati ?_ | refine mst ?_ | refine rmd ?_ | refine ibo (fun _ => ?_) (fun _ => ?_)) <;> conv => whnf))
      exact rfl
    · have e : imagesY G p whole = dLL (imgs G.labels.length (okI G p whole) p.labels.length []) := by unfold imagesY; rw [if_pos ⟨he, fun h => h0 (by rw [h]; rfl)⟩]
      rw [e]
      have h8 : p.labels.length ≤ 8 := by
        unfold pErr at he
        split at he
        · cases he
        · rename_i hl
          exact (lErr_none hl).1
      have him := images_pure G hG p whole h8 hG10 hpe p.labels.length [] (by simp)
      have him2 : Pure C1 67 [dG G, dPt p, .nils, .bool whole] (fun y => y = dLL (imgs G.labels.length (okI G p whole) p.labels.length [])) := Sx.Pure.lax (.cons (.refl _) (.cons (.refl _) (.cons (.nils 1) (.cons (.refl _) .nil)))) him
      (conv => whnf)
      (repeat' ((first | refine ord_ok (by (conv => whnf); (repeat' ((first | refine call_eq rfl hr ?_ | refine call_eq rfl him2 ?_ | refine ify ?_ | refine ifn ?_ | refine i6 ?_ | refine ati ?_ | refine mst ?_ | refine rmd ?_ | refine ibo (fun _ => ?_) (fun _ => ?_)) <;> conv => whnf)); (all_goals (repeat' (first | exact trivial | exact rfl | refine And.intro ?_ ?_)))) ?_ | refine call_eq rfl hr ?_ | refine call_eq rfl him2 ?_ | refine ify ?_ | refine ifn ?_ | refine i6 ?_ | refine ati ?_ | refine mst ?_ | refine rmd ?_ | refine ibo (fun _ => ?_) (fun _ => ?_)) <;> conv => whnf))
      exact rfl
end Go.Proofs.YteigfapjiekdnaaGreatDoor
end

section
/- quick, plain: images are those of the document. -/
namespace Go.Gr
open Go.Proofs.YteigfapjiekdnaaGreatDoor
theorem turn_lt {a b : Int} (h : a ≤ b) : turn ⟨a, b⟩ = ⟨a, b⟩ := by unfold turn; simp only [Edg.mk.injEq]; omega
theorem turn_gt {a b : Int} (h : b ≤ a) : turn ⟨a, b⟩ = ⟨b, a⟩ := by unfold turn; simp only [Edg.mk.injEq]; omega
theorem hasR_turn {E : List Edg} (h : ∀ e ∈ E, e.a < e.b) (x y : Int) : hasR E x y = decide (turn ⟨x, y⟩ ∈ E) := by
  rw [Bool.eq_iff_iff, decide_eq_true_eq]
  unfold hasR
  rw [List.any_eq_true]
  constructor
  · rintro ⟨e, he, hc⟩
    have hc := of_decide_eq_true hc
    have hl := h e he
    obtain ⟨a, b⟩ := e
    simp only at hc hl
    rcases hc with ⟨rfl, rfl⟩ | ⟨rfl, rfl⟩
    · rw [turn_lt (by omega)]; exact he
    · rw [turn_gt (by omega)]; exact he
  · intro he
    refine ⟨_, he, decide_eq_true ?_⟩
    rcases Int.le_total x y with hxy | hxy
    · rw [turn_lt hxy]; exact .inl ⟨rfl, rfl⟩
    · rw [turn_gt hxy]; exact .inr ⟨rfl, rfl⟩
theorem okI_iff {G : Gr} {p : Pt} {whole : Bool} {l : List Int} {v : Int} : okI G p whole l v = true ↔ labelV G v = plOf p l.length ∧ v ∉ l ∧ ∀ k u, k < l.length → l[k]? = some u → okB G p whole l.length k u v = true := by
  constructor
  · intro h
    refine ⟨Decidable.byContradiction fun hn => ?_, okI_not h, fun k u _ hx => ?_⟩
    · rw [okI_label hn] at h; cases h
    · cases hb : okB G p whole l.length k u v with
      | true => rfl
      | false => rw [okI_at hx hb] at h; cases h
  · rintro ⟨h1, h2, h3⟩
    exact okI_yes h1 h2 h3
theorem okAll0_iff {ok : List Int → Int → Bool} {L : List Int} : okAll ok 0 L = true ↔ ∀ i v, L[i]? = some v → ok (L.take i) v = true := by
  simp only [okAll, List.all_eq_true, List.mem_range, Bool.or_eq_true, decide_eq_true_eq]
  constructor
  · intro h i v hx
    have := h i (List.getElem?_eq_some_iff.1 hx).1
    rw [hx] at this
    rcases this with h | h
    · omega
    · exact h
  · intro h i hi
    right
    rw [List.getElem?_eq_getElem hi]
    exact h i _ (List.getElem?_eq_getElem hi)
end Go.Gr
end
