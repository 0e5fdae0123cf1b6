/- Merged: Qif Qig Qih Imc Ime. -/
import Derived.Test.YteigfapjiekdnaaGreatDoorPte
import Derived.Test.YteigfapjiekdnaaGreatDoorQip
import Derived.Test.YteigfapjiekdnaaGreatDoorClp
import Derived.Test.YteigfapjiekdnaaGreatDoorGrs
import Derived.Test.YteigfapjiekdnaaGreatDoorZln
section
/- quick: fits, images, Images. -/
namespace Go.Gr
open Go.Proofs.YteigfapjiekdnaaGreatDoor
def plOf (p : Pt) (i : Nat) : Int := (p.labels[i]?).getD 0
def phOf (p : Pt) (i j : Nat) : Bool := decide (turn ⟨(i : Int), (j : Int)⟩ ∈ p.edges)
def hasG (G : Gr) (u v : Int) : Bool := decide (turn ⟨u, v⟩ ∈ G.edges)
/-- may a vertex be next in an image of a pattern? -/
def okI (G : Gr) (p : Pt) (whole : Bool) (l : List Int) (v : Int) : Bool := fitV (labelV G) (hasG G) (plOf p) (phOf p) whole l v
def okB (G : Gr) (p : Pt) (whole : Bool) (n i : Nat) (u v : Int) : Bool := (!phOf p i n || hasG G u v) && (!whole || !hasG G u v || phOf p i n)
theorem okI_label {G : Gr} {p : Pt} {whole : Bool} {l : List Int} {v : Int} (h : labelV G v ≠ plOf p l.length) : okI G p whole l v = false := by simp [okI, fitV, h]
theorem okI_mem {G : Gr} {p : Pt} {whole : Bool} {l : List Int} {v : Int} (h : v ∈ l) : okI G p whole l v = false := by simp [okI, fitV, h]
theorem okI_at {G : Gr} {p : Pt} {whole : Bool} {l : List Int} {v u : Int} {i : Nat} (hx : l[i]? = some u) (h : okB G p whole l.length i u v = false) : okI G p whole l v = false := by
  unfold okI fitV
  rw [Bool.and_eq_false_iff]; right
  rw [Bool.and_eq_false_iff]; right
  rw [List.all_eq_false]
  refine ⟨i, List.mem_range.2 (List.getElem?_eq_some_iff.1 hx).1, ?_⟩
  rw [hx]
  simpa [okB] using h
theorem okI_yes {G : Gr} {p : Pt} {whole : Bool} {l : List Int} {v : Int} (h1 : labelV G v = plOf p l.length) (h2 : v ∉ l) (h : ∀ k u, k < l.length → l[k]? = some u → okB G p whole l.length k u v = true) : okI G p whole l v = true := by
  unfold okI fitV
  rw [Bool.and_eq_true, Bool.and_eq_true]
  refine ⟨decide_eq_true h1, by simpa using h2, ?_⟩
  rw [List.all_eq_true]
  intro i hi
  have hi := List.mem_range.1 hi
  rw [List.getElem?_eq_getElem hi]
  exact h i _ hi (List.getElem?_eq_getElem hi)
theorem okI_not {G : Gr} {p : Pt} {whole : Bool} {l : List Int} {v : Int} (h : okI G p whole l v = true) : v ∉ l := fun hm => by rw [okI_mem hm] at h; cases h
theorem imgs_len {n : Nat} {ok : List Int → Int → Bool} : ∀ (k : Nat) (l : List Int), (imgs n ok k l).length ≤ n ^ k
  | 0, l => by simp [imgs]
  | k + 1, l => by
    unfold imgs
    rw [List.length_flatMap, Nat.pow_succ, Nat.mul_comm]
    have h1 : (((List.range n).filter fun v : Nat => ok l v).map fun v : Nat => (imgs n ok k (l ++ [(v : Int)])).length).sum ≤ ((List.range n).filter fun v : Nat => ok l v).length * n ^ k := by
      generalize (List.range n).filter (fun v : Nat => ok l v) = R
      induction R with
      | nil => simp
      | cons v R ih =>
        have := imgs_len (n := n) (ok := ok) k (l ++ [(v : Int)])
        simp only [List.map_cons, List.sum_cons, List.length_cons, Nat.add_mul, Nat.one_mul]; omega
    refine Nat.le_trans h1 (Nat.mul_le_mul_right _ ?_)
    exact Nat.le_trans (List.length_filter_le _ _) (by simp)
def outF (n : Nat) (ok : List Int → Int → Bool) (k : Nat) (l : List Int) (v : Nat) : List (List Int) := ((List.range v).filter fun v : Nat => ok l v).flatMap fun v : Nat => imgs n ok k (l ++ [(v : Int)])
theorem outF_step {n : Nat} {ok : List Int → Int → Bool} {k : Nat} {l : List Int} {v : Nat} : outF n ok k l (v + 1) = outF n ok k l v ++ if ok l v then imgs n ok k (l ++ [(v : Int)]) else [] := by
  unfold outF
  rw [List.range_succ, List.filter_append, List.flatMap_append]
  congr 1
  by_cases h : ok l v <;> simp [h]
theorem outF_len {n : Nat} {ok : List Int → Int → Bool} {k : Nat} {l : List Int} : ∀ v, (outF n ok k l v).length ≤ v * n ^ k
  | 0 => by simp [outF]
  | v + 1 => by
    have h1 := outF_len (n := n) (ok := ok) (k := k) (l := l) v
    have h2 := imgs_len (n := n) (ok := ok) k (l ++ [(v : Int)])
    rw [outF_step, List.length_append, Nat.add_mul, Nat.one_mul]
    split
    · omega
    · simp only [List.length_nil]; omega
end Go.Gr
namespace Go.Proofs.YteigfapjiekdnaaGreatDoor
open Go.Sx Go.RowKit Go.Reg Go.Gr

set_option maxRecDepth 100000
def dLL (X : List (List Int)) : Da := .list 1 (X.map dIs)
theorem clip_fn : ClipFn C1 126 := by
  intro w a n c hn hc
  refine ⟨by kernel_rfl, ?_⟩
  show Calls Tryz.prog _ _ _ _
  go_enter Tryz.func126, Tryz.ntmps126
  go_wp2
  go_ret
  exact ⟨rfl, rfl⟩
def pl_qfi : List (Nat × Plan) := [(2, .leaf [0, 0, 2, 0, 1, 0, 0, 1, 0, 0, 0, 0, 2, 0] [0, 1, 3, 5, 4, 6, 7, 2, 8, 9, 10, 11, 12, 13] [0, 0, 3, 0, 8, 0, 56, 120, 255, 511, 1023, 1023, 4095, 8191]),
  (7, .leaf [0, 0, 0, 2, 1, 0, 0, 2, 0, 0] [0, 1, 2, 5, 6, 4, 3, 7, 8, 9] [0, 0, 0, 7, 0, 0, 0, 127, 255, 511])]
def G_qfi : List FuncId := [13, 136, 95, 151]
theorem cok_qfi : codeOk Tryz.prog G_qfi pl_qfi (Tryz.f125.body.getD .skip) = true := by kernel_rfl
theorem run_qfi (vs : Array Value) (w : World) : (callFunc 125 vs).run C1.P w = .ok (.enter 125 vs) w := by kernel_rfl
set_option maxHeartbeats 4000000 in
theorem fits_pure (G : Gr) (hG : G.Ok) (p : Pt) (l : List Int) (v : Int) (whole : Bool) (hl : l.length < p.labels.length) (h8 : p.labels.length ≤ 8) (hpe : p.edges.length ≤ 100000) : Pure C1 125 [dG G, dPt p, dIs l, .int .i64 v, .bool whole] (fun y => y = .bool (okI G p whole l v)) := by
  have hdl : (l.map dI).length = l.length := List.length_map _
  have h1 := label_pure G v
  have h2 := contains_pure l v
  have hpx : (p.labels.map dI)[l.length]? = some (.int .i64 (plOf p l.length)) := by
    rw [List.getElem?_map, List.getElem?_eq_getElem hl]
    unfold plOf
    rw [List.getElem?_eq_getElem hl]; rfl
  refine pure_of c1_ok (pl := pl_qfi) (G := G_qfi) Tryz.func125 rfl Tryz.ntmps125 run_qfi cok_qfi (by simp) ?_
  rcases Decidable.em (labelV G v ≠ plOf p l.length) with hlab | hlab
  · rw [okI_label hlab]
    (conv => whnf)
    (repeat' ((first | refine ord_ok (by (conv => whnf); (repeat' ((first | refine call_eq rfl h1 ?_ | refine at_da hpx (by omega) ?_ | refine ify ?_ | refine ifn ?_ | refine i6 ?_ | refine ati ?_ | refine mst ?_ | refine rmd ?_ | refine ibo (fun _ => ?_) (fun _ => ?_)) <;> conv => whnf)); (all_goals (repeat' (first | exact trivial | exact rfl | refine And.intro ?_ ?_)))) ?_ | refine call_eq rfl h1 ?_ | refine at_da hpx (by omega) ?_ | refine ify ?_ | refine ifn ?_ | refine i6 ?_ | refine ati ?_ | refine mst ?_ | refine rmd ?_ | refine ibo (fun _ => ?_) (fun _ => ?_)) <;> conv => whnf))
    exact rfl
  have hlab : labelV G v = plOf p l.length := Decidable.not_not.1 hlab
  by_cases hm : v ∈ l
  · rw [okI_mem hm]
    rw [decide_eq_true hm] at h2
    (conv => whnf)
    (repeat' ((first | refine ord_ok (by (conv => whnf); (repeat' ((first | refine call_eq rfl h1 ?_ | refine at_da hpx (by omega) ?_ | refine call_eq rfl h2 ?_ | refine ify ?_ | refine ifn ?_ | refine i6 ?_ | refine ati ?_ | refine mst ?_ | refine rmd ?_ | refine ibo (fun _ => ?_) (fun _ => ?_)) <;> conv => whnf)); (all_goals (repeat' (first | exact trivial | exact rfl | refine And.intro ?_ ?_)))) ?_ | refine call_eq rfl h1 ?_ | refine at_da hpx (by omega) ?_ | refine call_eq rfl h2 ?_ | refine ify ?_ | refine ifn ?_ | refine i6 ?_ | refine ati ?_ | refine mst ?_ | refine rmd ?_ | refine ibo (fun _ => ?_) (fun _ => ?_)) <;> conv => whnf))
    exact rfl
  rw [decide_eq_false hm] at h2
  (conv => whnf)
  (repeat' ((first | refine ord_ok (by (conv => whnf); (repeat' ((first | refine call_eq rfl h1 ?_ | refine at_da hpx (by omega) ?_ | refine call_eq rfl h2 ?_ | refine ify ?_ | refine ifn ?_ | refine i6 ?_ | refine ati ?_ | refine mst ?_ | refine rmd ?_ | refine ibo (fun _ => ?_) (fun _ => ?_)) <;> conv => whnf)); (all_goals (repeat' (first | exact trivial | exact rfl | refine And.intro ?_ ?_)))) ?_ | refine call_eq rfl h1 ?_ | refine at_da hpx (by omega) ?_ | refine call_eq rfl h2 ?_ | refine ify ?_ | refine ifn ?_ | refine i6 ?_ | refine ati ?_ | refine mst ?_ | refine rmd ?_ | refine ibo (fun _ => ?_) (fun _ => ?_)) <;> conv => whnf))
  refine loop_lo (ι := Nat) (fun i => i ≤ l.length ∧ ∀ k u, k < i → l[k]? = some u → okB G p whole l.length k u v = true) (fun i => [(34, .d (.int .i64 i)), (33, .d (.int .i64 l.length)), (32, .d (dIs l)), (11, .d (.int .i64 l.length)), (6, .own 6), (4, .d (.bool whole)), (3, .d (.int .i64 v)), (0, .d (dG G))]) (fun _ => [(6, .cells 38 [.d (dIs p.labels), .d (dEs p.edges)])]) (fun i => l.length - i) 0 (fun _ => rfl) ⟨Nat.zero_le _, (by intro k u h; omega)⟩ (.refl _ _) ⟨rfl, by rw [← hdl]; rfl, rfl, by rw [← hdl]; rfl, rfl, rfl, rfl, rfl, trivial⟩ ⟨rfl, trivial⟩ ?_
  rintro i ⟨hi, hok⟩
  refine sxCode_sound c1_ok (G := G_qfi) (pl := pl_qfi) _ _ _ _ (by kernel_rfl) ?_
  by_cases hil : i < l.length
  · have hx := List.getElem?_eq_getElem hil
    generalize l[i] = u at hx
    have hxd : (l.map dI)[i]? = some (.int .i64 u) := by rw [List.getElem?_map, hx]; rfl
    have h3 := hasE_pure G hG u v
    have h4 := phas_pure p i l.length (by omega)
    have hob : okB G p whole l.length i u v = ((!decide (turn ⟨(i : Int), (l.length : Int)⟩ ∈ p.edges) || decide (turn ⟨u, v⟩ ∈ G.edges)) && (!whole || !decide (turn ⟨u, v⟩ ∈ G.edges) || decide (turn ⟨(i : Int), (l.length : Int)⟩ ∈ p.edges))) := rfl
    have hst : okB G p whole l.length i u v = true → ∀ k w, k < i + 1 → l[k]? = some w → okB G p whole l.length k w v = true := by
      intro hb k w hk hw
      rcases Nat.lt_or_ge k i with hlt | hlt
      · exact hok k w hlt hw
      · have : k = i := by omega
        subst this
        rw [hx] at hw; cases hw; exact hb
    have hno := fun hb => okI_at (G := G) (p := p) (whole := whole) (v := v) hx hb
    cases hw : decide (turn ⟨(i : Int), (l.length : Int)⟩ ∈ p.edges) <;> cases hs : decide (turn ⟨u, v⟩ ∈ G.edges) <;> cases whole <;> rw [hw] at h4 hob <;> rw [hs] at h3 hob <;> simp only [Bool.not_true, Bool.not_false, Bool.and_true, Bool.and_false, Bool.or_true, Bool.or_false] at hob <;> (conv => whnf) <;> (repeat' ((first | refine ord_ok (by (conv => whnf); (repeat' ((first | refine at_da hxd rfl ?_ | refine call_eq rfl h3 ?_ | refine call_eq rfl h4 ?_ | refine ify ?_ | refine ifn ?_ | refine i6 ?_ | refine ati ?_ | refine mst ?_ | refine rmd ?_ | refine ibo (fun _ => ?_) (fun _ => ?_)) <;> conv => whnf)); (all_goals (repeat' (first | exact trivial | exact rfl | refine And.intro ?_ ?_)))) ?_ | refine at_da hxd rfl ?_ | refine call_eq rfl h3 ?_ | refine call_eq rfl h4 ?_ | refine ify ?_ | refine ifn ?_ | refine i6 ?_ | refine ati ?_ | refine mst ?_ | refine rmd ?_ | refine ibo (fun _ => ?_) (fun _ => ?_)) <;> conv => whnf))
    all_goals first | (exact ⟨i + 1, _, _, ⟨by omega, hst hob⟩, .refl _ _, ⟨rfl, rfl, rfl, rfl, rfl, rfl, rfl, rfl, trivial⟩, ⟨rfl, trivial⟩, by omega⟩) | (rw [hno hob]; exact rfl)
  · rw [okI_yes hlab hm (fun k u hk hx => hok k u (by omega) hx)]
    ((conv => whnf); repeat' ((first | refine odw ?_ | refine ify ?_ | refine ifn ?_ | refine i6 ?_ | refine ati ?_ | refine mst ?_ | refine rmd ?_ | refine ibo (fun _ => ?_) (fun _ => ?_)) <;> conv => whnf))
    exact rfl
theorem pow_le8 {n k : Nat} (hn : n ≤ 10) (hk : k ≤ 8) : n ^ k ≤ 100000000 :=
  Nat.le_trans (Nat.pow_le_pow_left hn k) (Nat.pow_le_pow_right (n := 10) (by omega) hk)
def pl_qim : List (Nat × Plan) := [(8, .split 2 7 (.split 4 6 (.leaf [0, 0, 1, 0, 2, 0, 6, 3, 0, 2, 3, 0] [0, 1, 3, 5, 8, 2, 4, 6, 7, 9, 10, 11] [0, 0, 0, 0, 8, 0, 56, 124, 0, 510, 1023, 2047]) (.leaf [0, 0, 1, 0, 2, 0, 6, 3, 0, 2, 3, 0] [0, 1, 3, 5, 8, 2, 6, 4, 7, 9, 10, 11] [0, 0, 0, 0, 104, 0, 32, 124, 0, 510, 1023, 2047])) (.split 4 6 (.leaf [0, 0, 1, 0, 2, 0, 6, 3, 0, 2, 3, 0] [0, 1, 3, 5, 8, 4, 6, 7, 2, 9, 10, 11] [0, 0, 248, 0, 8, 0, 56, 120, 0, 510, 1023, 2047]) (.leaf [0, 0, 1, 0, 2, 0, 6, 3, 0, 2, 3, 0] [0, 1, 3, 5, 8, 6, 4, 7, 2, 9, 10, 11] [0, 0, 248, 0, 104, 0, 32, 120, 0, 510, 1023, 2047])))]
def G_qim : List FuncId := [12, 125, 126, 67]
theorem cok_qim : codeOk Tryz.prog G_qim pl_qim (Tryz.f67.body.getD .skip) = true := by kernel_rfl
theorem run_qim (vs : Array Value) (w : World) : (callFunc 67 vs).run C1.P w = .ok (.enter 67 vs) w := by kernel_rfl
set_option maxHeartbeats 4000000 in
theorem images_pure (G : Gr) (hG : G.Ok) (p : Pt) (whole : Bool) (h8 : p.labels.length ≤ 8) (hG10 : G.labels.length ≤ 10) (hpe : p.edges.length ≤ 100000) : ∀ (k : Nat) (l : List Int), l.length + k = p.labels.length → Pure C1 67 [dG G, dPt p, dIs l, .bool whole] (fun y => y = dLL (imgs G.labels.length (okI G p whole) k l))
  | 0, l, hk => by
    have hdl : (l.map dI).length = l.length := List.length_map _
    have hdp : (p.labels.map dI).length = p.labels.length := List.length_map _
    refine pure_of c1_ok (pl := pl_qim) (G := G_qim) Tryz.func67 rfl Tryz.ntmps67 run_qim cok_qim (by simp) ?_
    ((conv => whnf); repeat' ((first | refine odw ?_ | refine ify ?_ | refine ifn ?_ | refine i6 ?_ | refine ati ?_ | refine mst ?_ | refine rmd ?_ | refine ibo (fun _ => ?_) (fun _ => ?_)) <;> conv => whnf))
    refine call_mksl 18 rfl rfl (clone_sl l (by omega)) ?_
    rintro ds rfl
    ((conv => whnf); repeat' ((first | refine odw ?_ | refine ify ?_ | refine ifn ?_ | refine i6 ?_ | refine ati ?_ | refine mst ?_ | refine rmd ?_ | refine ibo (fun _ => ?_) (fun _ => ?_)) <;> conv => whnf))
    refine op_again c1_ok (G := []) (.frz 18 rfl (.refl _ _)) (.inr rfl) ?_
    ((conv => whnf); repeat' ((first | refine odw ?_ | refine ify ?_ | refine ifn ?_ | refine i6 ?_ | refine ati ?_ | refine mst ?_ | refine rmd ?_ | refine ibo (fun _ => ?_) (fun _ => ?_)) <;> conv => whnf))
    exact rfl
  | k + 1, l, hk => by
    have hdl : (l.map dI).length = l.length := List.length_map _
    have hdp : (p.labels.map dI).length = p.labels.length := List.length_map _
    have hlen := len_pure G
    have hpow : G.labels.length ^ k ≤ 100000000 := pow_le8 hG10 (by omega)
    refine pure_of c1_ok (pl := pl_qim) (G := G_qim) Tryz.func67 rfl Tryz.ntmps67 run_qim cok_qim (by simp) ?_
    (conv => whnf)
    (repeat' ((first | refine ord_ok (by (conv => whnf); (repeat' ((first | refine call_eq rfl hlen ?_ | refine ify ?_ | refine ifn ?_ | refine i6 ?_ | refine ati ?_ | refine mst ?_ | refine rmd ?_ | refine ibo (fun _ => ?_) (fun _ => ?_)) <;> conv => whnf)); (all_goals (repeat' (first | exact trivial | exact rfl | refine And.intro ?_ ?_)))) ?_ | refine call_eq rfl hlen ?_ | refine ify ?_ | refine ifn ?_ | refine i6 ?_ | refine ati ?_ | refine mst ?_ | refine rmd ?_ | refine ibo (fun _ => ?_) (fun _ => ?_)) <;> conv => whnf))
    refine loop_lo (ι := Nat) (fun v => v ≤ G.labels.length) (fun v => [(22, .d (.int .i64 v)), (21, .d (.int .i64 G.labels.length)), (9, .own 300), (5, .own 5), (3, .d (.bool whole)), (2, .d (dIs l)), (0, .d (dG G))]) (fun v => [(5, .cells 38 [.d (dIs p.labels), .d (dEs p.edges)]), (300, .slice 22 1 ((outF G.labels.length (okI G p whole) k l v).map dIs))]) (fun v => G.labels.length - v) 0 (fun _ => rfl) (Nat.zero_le _) (.own 9 300 22 1 rfl rfl (.refl _ _)) ⟨rfl, rfl, rfl, rfl, rfl, rfl, rfl, trivial⟩ ⟨rfl, rfl, trivial⟩ ?_
    intro v hv
    refine sxCode_sound c1_ok (G := G_qim) (pl := pl_qim) _ _ _ _ (by kernel_rfl) ?_
    by_cases hvl : v < G.labels.length
    · have hfi := fits_pure G hG p l v whole (by omega) h8 hpe
      have hih := images_pure G hG p whole h8 hG10 hpe k (l ++ [(v : Int)]) (by rw [List.length_append, List.length_singleton]; omega)
      rw [show dIs (l ++ [(v : Int)]) = .list 1 (l.map dI ++ [.int .i64 v]) by simp [dIs, dI]] at hih
      have hst := outF_step (n := G.labels.length) (ok := okI G p whole) (k := k) (l := l) (v := v)
      have hol := outF_len (n := G.labels.length) (ok := okI G p whole) (k := k) (l := l) v
      have hil := imgs_len (n := G.labels.length) (ok := okI G p whole) k (l ++ [(v : Int)])
      have hmul : v * G.labels.length ^ k ≤ 10 * 100000000 := Nat.mul_le_mul (by omega) hpow
      have hom : ((outF G.labels.length (okI G p whole) k l v).map dIs).length ≤ 1000000000 := by rw [List.length_map]; omega
      have him : ((imgs G.labels.length (okI G p whole) k (l ++ [(v : Int)])).map dIs).length ≤ 100000000 := by rw [List.length_map]; omega
      cases hf : okI G p whole l v with
      | false =>
        rw [hf] at hfi hst
        rw [if_neg (by decide), List.append_nil] at hst
        (conv => whnf)
        (repeat' ((first | refine ord_ok (by (conv => whnf); (repeat' ((first | refine call_eqb tab rfl hfi rfl ?_ | refine ify ?_ | refine ifn ?_ | refine i6 ?_ | refine ati ?_ | refine mst ?_ | refine rmd ?_ | refine ibo (fun _ => ?_) (fun _ => ?_)) <;> conv => whnf)); (all_goals (repeat' (first | exact trivial | exact rfl | refine And.intro ?_ ?_)))) ?_ | refine call_eqb tab rfl hfi rfl ?_ | refine ify ?_ | refine ifn ?_ | refine i6 ?_ | refine ati ?_ | refine mst ?_ | refine rmd ?_ | refine ibo (fun _ => ?_) (fun _ => ?_)) <;> conv => whnf))
        exact ⟨v + 1, _, _, by omega, .refl _ _, ⟨rfl, rfl, rfl, rfl, rfl, rfl, rfl, trivial⟩, ⟨rfl, slice_is (by rw [hst]), trivial⟩, by omega⟩
      | true =>
        rw [hf] at hfi hst
        rw [if_pos rfl] at hst
        (conv => whnf)
        (repeat' ((first | refine ord_ok (by (conv => whnf); (repeat' ((first | refine call_eqb tab rfl hfi rfl ?_ | refine call_clip 400 rfl rfl clip_fn fun a => ?_ | refine op_appClip 400 38 35 c1_ok rfl rfl rfl rfl (by decide) (by decide) rfl rfl rfl rfl (by simp) rfl rfl rfl (mostOf_le (by simp only [List.length_map, List.length_cons, List.length_nil]; omega) rfl rfl) rfl ⟨rfl, rfl, rfl, rfl, trivial⟩ ?_ | refine call_frz 38 rfl ?_ | refine call_eq rfl hih ?_ | refine ify ?_ | refine ifn ?_ | refine i6 ?_ | refine ati ?_ | refine mst ?_ | refine rmd ?_ | refine ibo (fun _ => ?_) (fun _ => ?_)) <;> conv => whnf)); (all_goals (repeat' (first | exact trivial | exact rfl | refine And.intro ?_ ?_)))) ?_ | refine call_eqb tab rfl hfi rfl ?_ | refine call_clip 400 rfl rfl clip_fn fun a => ?_ | refine op_appClip 400 38 35 c1_ok rfl rfl rfl rfl (by decide) (by decide) rfl rfl rfl rfl (by simp) rfl rfl rfl (mostOf_le (by simp only [List.length_map, List.length_cons, List.length_nil]; omega) rfl rfl) rfl ⟨rfl, rfl, rfl, rfl, trivial⟩ ?_ | refine call_frz 38 rfl ?_ | refine call_eq rfl hih ?_ | refine ify ?_ | refine ifn ?_ | refine i6 ?_ | refine ati ?_ | refine mst ?_ | refine rmd ?_ | refine ibo (fun _ => ?_) (fun _ => ?_)) <;> conv => whnf))
        exact ⟨v + 1, _, _, by omega, .refl _ _, ⟨rfl, rfl, rfl, rfl, rfl, rfl, rfl, trivial⟩, ⟨rfl, slice_is (by rw [hst, List.map_append]), trivial⟩, by omega⟩
    · have hve : v = G.labels.length := by omega
      subst hve
      ((conv => whnf); repeat' ((first | refine odw ?_ | refine ify ?_ | refine ifn ?_ | refine i6 ?_ | refine ati ?_ | refine mst ?_ | refine rmd ?_ | refine ibo (fun _ => ?_) (fun _ => ?_)) <;> conv => whnf))
      exact rfl
end Go.Proofs.YteigfapjiekdnaaGreatDoor
end

section
/- quick: Images. ref12: Images. -/
namespace Go.Gr
open Go.Proofs.YteigfapjiekdnaaGreatDoor
/-- one list more, by vertices below v -/
def stepV (l : List Int) (v : Nat) : List (List Int) := ((List.range v).filter fun v : Nat => !decide ((v : Int) ∈ l)).map fun v : Nat => l ++ [(v : Int)]
theorem stepV_succ (l : List Int) (v : Nat) : stepV l (v + 1) = stepV l v ++ if (v : Int) ∈ l then [] else [l ++ [(v : Int)]] := by
  unfold stepV
  rw [List.range_succ, List.filter_append, List.map_append]
  congr 1
  by_cases h : (v : Int) ∈ l <;> simp [h]
theorem stepL_take {n : Nat} {X : List (List Int)} {i : Nat} {l : List Int} (h : X[i]? = some l) : stepL n (X.take (i + 1)) = stepL n (X.take i) ++ stepV l n := by
  rw [List.take_add_one, h, stepL_append]
  simp [stepL, stepV]
theorem stepV_len (l : List Int) (v : Nat) : (stepV l v).length ≤ v := by
  unfold stepV
  rw [List.length_map]
  exact Nat.le_trans (List.length_filter_le _ _) (by simp)
theorem stepL_len (n : Nat) : ∀ X : List (List Int), (stepL n X).length ≤ X.length * n
  | [] => by simp [stepL]
  | l :: X => by
    have h1 := stepL_len n X
    have h2 := stepV_len l n
    have e : stepL n (l :: X) = stepV l n ++ stepL n X := rfl
    rw [e, List.length_append, List.length_cons, Nat.add_mul, Nat.one_mul]; omega
theorem iterL_count (n : Nat) : ∀ k : Nat, (iterL n k [[]]).length ≤ n ^ k
  | 0 => by simp [iterL]
  | k + 1 => by
    rw [iterL_succ]
    have h1 := stepL_len n (iterL n k [[]])
    have h2 := Nat.mul_le_mul_right n (iterL_count n k)
    rw [Nat.pow_succ]; omega
theorem iterL_mem {n : Nat} : ∀ {k : Nat} {L : List Int}, L ∈ iterL n k [[]] → L.Nodup ∧ ∀ x ∈ L, 0 ≤ x ∧ x < n
  | 0, L, h => by
    rw [List.mem_singleton.1 h]
    exact ⟨List.nodup_nil, fun x hx => (List.not_mem_nil hx).elim⟩
  | k + 1, L, h => by
    rw [iterL_succ] at h
    simp only [stepL, List.mem_flatMap, List.mem_map, List.mem_filter, List.mem_range, Bool.not_eq_true', decide_eq_false_iff_not] at h
    obtain ⟨l, hl, v, ⟨hv, hn⟩, rfl⟩ := h
    obtain ⟨h1, h2⟩ := iterL_mem hl
    refine ⟨?_, fun x hx => ?_⟩
    · rw [List.nodup_append]
      exact ⟨h1, by simp, fun a ha b hb => by rw [List.mem_singleton.1 hb]; exact fun e => hn (e ▸ ha)⟩
    · rcases List.mem_append.1 hx with hx | hx
      · exact h2 x hx
      · rw [List.mem_singleton.1 hx]; omega
/-- tests, one behind the other -/
def okIv (b : Bool) (d : Nat → Bool) : Nat → Bool
  | 0 => b
  | u + 1 => okIv b d u && d u
def okN (c : Nat → Bool) (d : Nat → Nat → Bool) : Nat → Bool
  | 0 => true
  | v + 1 => okIv (okN c d v && c v) (fun u => d u v) v
theorem okIv_iff {b : Bool} {d : Nat → Bool} : ∀ {u : Nat}, okIv b d u = true ↔ b = true ∧ ∀ k, k < u → d k = true
  | 0 => ⟨fun h => ⟨h, fun k hk => absurd hk (Nat.not_lt_zero k)⟩, fun h => h.1⟩
  | u + 1 => by
    simp only [okIv, Bool.and_eq_true, okIv_iff (u := u)]
    constructor
    · rintro ⟨⟨h1, h2⟩, h3⟩
      refine ⟨h1, fun k hk => ?_⟩
      rcases Nat.lt_or_ge k u with h | h
      · exact h2 k h
      · have : k = u := by omega
        subst this; exact h3
    · rintro ⟨h1, h2⟩
      exact ⟨⟨h1, fun k hk => h2 k (by omega)⟩, h2 u (by omega)⟩
theorem okN_iff {c : Nat → Bool} {d : Nat → Nat → Bool} : ∀ {v : Nat}, okN c d v = true ↔ ∀ k, k < v → c k = true ∧ ∀ u, u < k → d u k = true
  | 0 => ⟨fun _ k hk => absurd hk (Nat.not_lt_zero k), fun _ => rfl⟩
  | v + 1 => by
    simp only [okN, okIv_iff, Bool.and_eq_true, okN_iff (v := v)]
    constructor
    · rintro ⟨⟨h1, h2⟩, h3⟩ k hk
      rcases Nat.lt_or_ge k v with h | h
      · exact h1 k h
      · have : k = v := by omega
        subst this; exact ⟨h2, h3⟩
    · intro h
      exact ⟨⟨fun k hk => h k (by omega), (h v (by omega)).1⟩, (h v (by omega)).2⟩
def cL (G : Gr) (p : Pt) (L : List Int) (v : Nat) : Bool := decide (labelV G ((L[v]?).getD 0) = plOf p v)
def dLt (E : List Edg) (p : Pt) (whole : Bool) (L : List Int) (u v : Nat) : Bool := (hasR (madeE E L) u v || !hasR p.edges u v) && (hasR p.edges u v || !hasR (madeE E L) u v || !whole)
/-- is a list an image, by the document? -/
def okL (G : Gr) (p : Pt) (whole : Bool) (L : List Int) : Bool := okN (cL G p L) (dLt G.edges p whole L) p.labels.length
end Go.Gr
namespace Go.Proofs.YteigfapjiekdnaaGreatDoor
open Go.Sx Go.RowKit Go.Reg Go.Gr

set_option maxRecDepth 100000
theorem rightP_some {p : Pt} {c : Int} {i : Nat} (h : pErr p = some (c, i)) : ∃ s, rightP p = dF c i s := by
  unfold pErr at h
  unfold rightP
  split at h
  · rename_i x hl
    cases h
    rw [hl]
    exact ⟨_, rfl⟩
  · rename_i hl
    rw [hl]
    simp only
    rw [h]
    exact ⟨_, rfl⟩
def imagesY (G : Gr) (p : Pt) (whole : Bool) : Da := if pErr p = none ∧ p.labels ≠ [] then dLL (imgs G.labels.length (okI G p whole) p.labels.length []) else .nils
def pl_qiI : List (Nat × Plan) := []
def G_qiI : List FuncId := [31, 67]
theorem cok_qiI : codeOk Tryz.prog G_qiI pl_qiI (Tryz.f28.body.getD .skip) = true := by kernel_rfl
theorem run_qiI (vs : Array Value) (w : World) : (callFunc 28 vs).run C1.P w = .ok (.enter 28 vs) w := by kernel_rfl
theorem qimages_pure (G : Gr) (hG : G.Ok) (p : Pt) (whole : Bool) (hG10 : G.labels.length ≤ 10) (hpl : p.labels.length ≤ 9000000000000000000) (hpe : p.edges.length ≤ 100000) : Pure C1 28 [dG G, dPt p, .bool whole] (fun y => y = imagesY G p whole) := by
  have hdp : (p.labels.map dI).length = p.labels.length := List.length_map _
  have hr := pright_pure p (by omega) (by omega)
  refine pure_of c1_ok (pl := pl_qiI) (G := G_qiI) Tryz.func28 rfl Tryz.ntmps28 run_qiI cok_qiI (by simp) ?_
  cases he : pErr p with
  | some x =>
    obtain ⟨c, i⟩ := x
    obtain ⟨s, hs⟩ := rightP_some he
    rw [hs] at hr
    have e : imagesY G p whole = .nils := by unfold imagesY; rw [if_neg (fun h => by rw [he] at h; cases h.1)]
    rw [e]
    (conv => whnf)
    (repeat' ((first | refine ord_ok (by (conv => whnf); (repeat' ((first | refine call_eq rfl hr ?_ | refine ify ?_ | refine ifn ?_ | refine i6 ?_ | refine ati ?_ | refine mst ?_ | refine rmd ?_ | refine ibo (fun _ => ?_) (fun _ => ?_)) <;> conv => whnf)); (all_goals (repeat' (first | exact trivial | exact rfl | refine And.intro ?_ ?_)))) ?_ | refine call_eq rfl hr ?_ | refine ify ?_ | refine ifn ?_ | refine i6 ?_ | refine ati ?_ | refine mst ?_ | refine rmd ?_ | refine ibo (fun _ => ?_) (fun _ => ?_)) <;> conv => whnf))
    exact rfl
  | none =>
    rw [rightP_none he] at hr
    by_cases h0 : p.labels.length = 0
    · have e : imagesY G p whole = .nils := by unfold imagesY; rw [if_neg (fun h => h.2 (List.eq_nil_of_length_eq_zero h0))]
      rw [e]
      (conv => whnf)
      (repeat' ((first | refine ord_ok (by (conv => whnf); (repeat' ((first | refine call_eq rfl hr ?_ | refine ify ?_ | refine ifn ?_ | refine i6 ?_ | refine ati ?_ | refine mst ?_ | refine rmd ?_ | refine ibo (fun _ => ?_) (fun _ => ?_)) <;> conv => whnf)); (all_goals (repeat' (first | exact trivial | exact rfl | refine And.intro ?_ ?_)))) ?_ | refine call_eq rfl hr ?_ | refine ify ?_ | refine ifn ?_ | refine i6 ?_ | refine ati ?_ | refine mst ?_ | refine rmd ?_ | refine ibo (fun _ => ?_) (fun _ => ?_)) <;> conv => whnf))
      exact rfl
    · have e : imagesY G p whole = dLL (imgs G.labels.length (okI G p whole) p.labels.length []) := by unfold imagesY; rw [if_pos ⟨he, fun h => h0 (by rw [h]; rfl)⟩]
      rw [e]
      have h8 : p.labels.length ≤ 8 := by
        unfold pErr at he
        split at he
        · cases he
        · rename_i hl
          exact (lErr_none hl).1
      have him := images_pure G hG p whole h8 hG10 hpe p.labels.length [] (by simp)
      have him2 : Pure C1 67 [dG G, dPt p, .nils, .bool whole] (fun y => y = dLL (imgs G.labels.length (okI G p whole) p.labels.length [])) := Sx.Pure.lax (.cons (.refl _) (.cons (.refl _) (.cons (.nils 1) (.cons (.refl _) .nil)))) him
      (conv => whnf)
      (repeat' ((first | refine ord_ok (by (conv => whnf); (repeat' ((first | refine call_eq rfl hr ?_ | refine call_eq rfl him2 ?_ | refine ify ?_ | refine ifn ?_ | refine i6 ?_ | refine ati ?_ | refine mst ?_ | refine rmd ?_ | refine ibo (fun _ => ?_) (fun _ => ?_)) <;> conv => whnf)); (all_goals (repeat' (first | exact trivial | exact rfl | refine And.intro ?_ ?_)))) ?_ | refine call_eq rfl hr ?_ | refine call_eq rfl him2 ?_ | refine ify ?_ | refine ifn ?_ | refine i6 ?_ | refine ati ?_ | refine mst ?_ | refine rmd ?_ | refine ibo (fun _ => ?_) (fun _ => ?_)) <;> conv => whnf))
      exact rfl
def pl_r12i : List (Nat × Plan) := [(19, .split 5 6 (.leaf [1, 0, 0, 0, 1, 2, 6, 3] [1, 2, 3, 0, 4, 5, 6, 7] [0, 0, 0, 6, 14, 31, 63, 127]) (.leaf [1, 0, 0, 0, 1, 2, 6, 3] [1, 2, 3, 0, 4, 6, 5, 7] [0, 0, 0, 6, 14, 95, 0, 127])),
  (24, .leaf [0, 0, 0, 1, 0, 0, 1, 0, 1, 0, 0, 1, 0, 0, 0] [0, 1, 2, 4, 7, 9, 3, 5, 6, 8, 10, 11, 12, 13, 14] [0, 1, 3, 7, 3, 31, 63, 3, 131, 3, 899, 1923, 4095, 8191, 16383]),
  (28, .leaf [1, 0, 0, 2, 1, 0, 0, 2, 0, 0] [1, 2, 5, 6, 0, 4, 3, 7, 8, 9] [0, 0, 0, 7, 0, 0, 0, 127, 255, 511])]
def G_r12i : List FuncId := [17, 64, 65]
theorem cok_r12i : codeOk Tryz.prog G_r12i pl_r12i (Tryz.f22.body.getD .skip) = true := by kernel_rfl
theorem run_r12i (vs : Array Value) (w : World) : (callFunc 22 vs).run C1.P w = .ok (.enter 22 vs) w := by kernel_rfl
set_option maxHeartbeats 8000000 in
theorem rimages_pure (G : Gr) (p : Pt) (whole : Bool) (hG10 : G.labels.length ≤ 10) (hGe : G.edges.length ≤ 100000) (h8 : p.labels.length ≤ 8) (h0 : 0 < p.labels.length) (hpe : p.edges.length ≤ 100000) : Pure C1 22 [dM G.labels G.edges, dPt p, .bool whole] (fun y => y = dLL ((iterL G.labels.length p.labels.length [[]]).filter (okL G p whole))) := by
  have hdp : (p.labels.map dI).length = p.labels.length := List.length_map _
  have hdG : (G.labels.map dI).length = G.labels.length := List.length_map _
  refine pure_of c1_ok (pl := pl_r12i) (G := G_r12i) Tryz.func22 rfl Tryz.ntmps22 run_r12i cok_r12i (by simp) ?_
  ((conv => whnf); repeat' ((first | refine odw ?_ | refine ify ?_ | refine ifn ?_ | refine i6 ?_ | refine ati ?_ | refine mst ?_ | refine rmd ?_ | refine ibo (fun _ => ?_) (fun _ => ?_)) <;> conv => whnf))
  refine op_again c1_ok (G := []) (.frz 20 rfl (.refl _ _)) (.inr rfl) ?_
  ((conv => whnf); repeat' ((first | refine odw ?_ | refine ify ?_ | refine ifn ?_ | refine i6 ?_ | refine ati ?_ | refine mst ?_ | refine rmd ?_ | refine ibo (fun _ => ?_) (fun _ => ?_)) <;> conv => whnf))
  refine loop_lo (ι := Nat) (fun k => k ≤ p.labels.length) (fun k => [(8, .d (.int .i64 k)), (7, .d (dLL (iterL G.labels.length k [[]]))), (4, .own 4), (3, .own 3), (2, .d (.bool whole))]) (fun _ => [(3, .cells 27 [.d (dIs G.labels), .d (dEs G.edges)]), (4, .cells 47 [.d (dIs p.labels), .d (dEs p.edges)])]) (fun k => p.labels.length - k) 0 (fun _ => rfl) (Nat.zero_le _) (.frz 21 rfl (.refl _ _)) ⟨rfl, rfl, rfl, rfl, rfl, trivial⟩ ⟨rfl, rfl, trivial⟩ ?_
  intro k hk
  refine sxCode_sound c1_ok (G := G_r12i) (pl := pl_r12i) _ _ _ _ (by kernel_rfl) ?_
  by_cases hkl : k < p.labels.length
  · have hXl := iterL_count G.labels.length k
    have hXp := pow_le8 hG10 (show k ≤ 8 by omega)
    have hsu := iterL_succ G.labels.length k [[]]
    have hXn : ∀ L ∈ iterL G.labels.length k [[]], L.length = k := fun L hL => iterL_len _ _ hL
    generalize iterL G.labels.length k [[]] = X at hXl hsu hXn ⊢
    have hdX : (X.map dIs).length = X.length := List.length_map _
    ((conv => whnf); repeat' ((first | refine odw ?_ | refine ify ?_ | refine ifn ?_ | refine i6 ?_ | refine ati ?_ | refine mst ?_ | refine rmd ?_ | refine ibo (fun _ => ?_) (fun _ => ?_)) <;> conv => whnf))
    refine loop_lo (ι := Nat) (fun i => i ≤ X.length) (fun i => [(10, .d (.int .i64 i)), (9, .own 300), (8, .d (.int .i64 k)), (7, .d (dLL X)), (4, .own 4), (3, .own 3), (2, .d (.bool whole))]) (fun i => [(3, .cells 27 [.d (dIs G.labels), .d (dEs G.edges)]), (4, .cells 47 [.d (dIs p.labels), .d (dEs p.edges)]), (300, .slice 22 1 ((stepL G.labels.length (X.take i)).map dIs))]) (fun i => X.length - i) 0 (fun _ => rfl) (Nat.zero_le _) (.own 9 300 22 1 rfl rfl (.refl _ _)) ⟨rfl, rfl, rfl, rfl, rfl, rfl, rfl, trivial⟩ ⟨rfl, rfl, rfl, trivial⟩ ?_
    intro i hi
    refine sxCode_sound c1_ok (G := G_r12i) (pl := pl_r12i) _ _ _ _ (by kernel_rfl) ?_
    by_cases hil : i < X.length
    · have hx := List.getElem?_eq_getElem hil
      generalize X[i] = l at hx
      have hxd : (X.map dIs)[i]? = some (dIs l) := by rw [List.getElem?_map, hx]; rfl
      have hsl := stepL_len G.labels.length (X.take i)
      have hmul : (X.take i).length * G.labels.length ≤ 100000000 * 10 := Nat.mul_le_mul (by rw [List.length_take]; omega) hG10
      ((conv => whnf); repeat' ((first | refine odw ?_ | refine ify ?_ | refine ifn ?_ | refine i6 ?_ | refine ati ?_ | refine mst ?_ | refine rmd ?_ | refine ibo (fun _ => ?_) (fun _ => ?_)) <;> conv => whnf))
      refine loop_lo (ι := Nat) (fun v => v ≤ G.labels.length) (fun v => [(11, .d (.int .i64 v)), (10, .d (.int .i64 i)), (9, .own 300), (8, .d (.int .i64 k)), (7, .d (dLL X)), (4, .own 4), (3, .own 3), (2, .d (.bool whole))]) (fun v => [(3, .cells 27 [.d (dIs G.labels), .d (dEs G.edges)]), (4, .cells 47 [.d (dIs p.labels), .d (dEs p.edges)]), (300, .slice 22 1 ((stepL G.labels.length (X.take i) ++ stepV l v).map dIs))]) (fun v => G.labels.length - v) 0 (fun _ => rfl) (Nat.zero_le _) (.refl _ _) ⟨rfl, rfl, rfl, rfl, rfl, rfl, rfl, rfl, trivial⟩ ⟨rfl, rfl, by rw [show stepV l 0 = [] from rfl, List.append_nil]; rfl, trivial⟩ ?_
      intro v hv
      refine sxCode_sound c1_ok (G := G_r12i) (pl := pl_r12i) _ _ _ _ (by kernel_rfl) ?_
      by_cases hvl : v < G.labels.length
      · have hh := has06_pure l v
        have hvs := stepV_len l v
        have hss := stepV_succ l v
        have hol : ((stepL G.labels.length (X.take i) ++ stepV l v).map dIs).length ≤ 2000000000 := by rw [List.length_map, List.length_append]; omega
        by_cases hm : (v : Int) ∈ l
        · rw [decide_eq_true hm] at hh
          rw [if_pos hm, List.append_nil] at hss
          (conv => whnf)
          (repeat' ((first | refine ord_ok (by (conv => whnf); (repeat' ((first | refine at_da hxd rfl ?_ | refine call_eqb tab rfl hh rfl ?_ | refine ify ?_ | refine ifn ?_ | refine i6 ?_ | refine ati ?_ | refine mst ?_ | refine rmd ?_ | refine ibo (fun _ => ?_) (fun _ => ?_)) <;> conv => whnf)); (all_goals (repeat' (first | exact trivial | exact rfl | refine And.intro ?_ ?_)))) ?_ | refine at_da hxd rfl ?_ | refine call_eqb tab rfl hh rfl ?_ | refine ify ?_ | refine ifn ?_ | refine i6 ?_ | refine ati ?_ | refine mst ?_ | refine rmd ?_ | refine ibo (fun _ => ?_) (fun _ => ?_)) <;> conv => whnf))
          exact ⟨v + 1, _, _, by omega, .refl _ _, ⟨rfl, rfl, rfl, rfl, rfl, rfl, rfl, rfl, trivial⟩, ⟨rfl, rfl, slice_is (by rw [hss]), trivial⟩, by omega⟩
        · rw [decide_eq_false hm] at hh
          rw [if_neg hm] at hss
          have hll := hXn l (List.mem_of_getElem? hx)
          have hdl : (l.map dI).length = l.length := List.length_map _
          (conv => whnf)
          (repeat' ((first | refine ord_ok (by (conv => whnf); (repeat' ((first | refine at_da hxd rfl ?_ | refine call_eqb tab rfl hh rfl ?_ | refine ify ?_ | refine ifn ?_ | refine i6 ?_ | refine ati ?_ | refine mst ?_ | refine rmd ?_ | refine ibo (fun _ => ?_) (fun _ => ?_)) <;> conv => whnf)); (all_goals (repeat' (first | exact trivial | exact rfl | refine And.intro ?_ ?_)))) ?_ | refine at_da hxd rfl ?_ | refine call_eqb tab rfl hh rfl ?_ | refine ify ?_ | refine ifn ?_ | refine i6 ?_ | refine ati ?_ | refine mst ?_ | refine rmd ?_ | refine ibo (fun _ => ?_) (fun _ => ?_)) <;> conv => whnf))
          refine op_again c1_ok (G := []) (.frz 50 rfl (.refl _ _)) (.inr rfl) ?_
          ((conv => whnf); repeat' ((first | refine odw ?_ | refine ify ?_ | refine ifn ?_ | refine i6 ?_ | refine ati ?_ | refine mst ?_ | refine rmd ?_ | refine ibo (fun _ => ?_) (fun _ => ?_)) <;> conv => whnf))
          refine ⟨v + 1, _, _, by omega, .refl _ _, ⟨rfl, rfl, rfl, rfl, rfl, rfl, rfl, rfl, trivial⟩, ⟨rfl, rfl, slice_is ?_, trivial⟩, by omega⟩
          rw [hss]; simp [dIs, dI]
      · have hve : v = G.labels.length := by omega
        subst hve
        ((conv => whnf); repeat' ((first | refine odw ?_ | refine ify ?_ | refine ifn ?_ | refine i6 ?_ | refine ati ?_ | refine mst ?_ | refine rmd ?_ | refine ibo (fun _ => ?_) (fun _ => ?_)) <;> conv => whnf))
        refine ⟨i + 1, _, _, by omega, .refl _ _, ⟨rfl, rfl, rfl, rfl, rfl, rfl, rfl, trivial⟩, ⟨rfl, rfl, slice_is (by rw [stepL_take hx]), trivial⟩, by omega⟩
    · have hie : i = X.length := by omega
      subst hie
      rw [List.take_length]
      ((conv => whnf); repeat' ((first | refine odw ?_ | refine ify ?_ | refine ifn ?_ | refine i6 ?_ | refine ati ?_ | refine mst ?_ | refine rmd ?_ | refine ibo (fun _ => ?_) (fun _ => ?_)) <;> conv => whnf))
      refine ⟨k + 1, _, _, by omega, .frz 300 rfl (.refl _ _), ⟨rfl, by rw [hsu]; rfl, rfl, rfl, rfl, trivial⟩, ⟨rfl, rfl, trivial⟩, by omega⟩
  · have hke : k = p.labels.length := by omega
    subst hke
    have hXl := iterL_count G.labels.length p.labels.length
    have hXp := pow_le8 hG10 h8
    have hXn : ∀ L ∈ iterL G.labels.length p.labels.length [[]], L.length = p.labels.length := fun L hL => iterL_len _ _ hL
    have hXm : ∀ L ∈ iterL G.labels.length p.labels.length [[]], ∀ x ∈ L, 0 ≤ x ∧ x < G.labels.length := fun L hL => (iterL_mem hL).2
    generalize iterL G.labels.length p.labels.length [[]] = X at hXl hXn hXm ⊢
    have hdX : (X.map dIs).length = X.length := List.length_map _
    ((conv => whnf); repeat' ((first | refine odw ?_ | refine ify ?_ | refine ifn ?_ | refine i6 ?_ | refine ati ?_ | refine mst ?_ | refine rmd ?_ | refine ibo (fun _ => ?_) (fun _ => ?_)) <;> conv => whnf))
    refine loop_lo (ι := Nat) (fun i => i ≤ X.length) (fun i => [(13, .d (.int .i64 i)), (12, .own 301), (7, .d (dLL X)), (4, .own 4), (3, .own 3), (2, .d (.bool whole))]) (fun i => [(3, .cells 27 [.d (dIs G.labels), .d (dEs G.edges)]), (4, .cells 47 [.d (dIs p.labels), .d (dEs p.edges)]), (301, .slice 22 1 (((X.take i).filter (okL G p whole)).map dIs))]) (fun i => X.length - i) 0 (fun _ => rfl) (Nat.zero_le _) (.own 12 301 22 1 rfl rfl (.refl _ _)) ⟨rfl, rfl, rfl, rfl, rfl, rfl, trivial⟩ ⟨rfl, rfl, rfl, trivial⟩ ?_
    intro i hi
    refine sxCode_sound c1_ok (G := G_r12i) (pl := pl_r12i) _ _ _ _ (by kernel_rfl) ?_
    by_cases hil : i < X.length
    · have hx := List.getElem?_eq_getElem hil
      generalize X[i] = L at hx
      have hxd : (X.map dIs)[i]? = some (dIs L) := by rw [List.getElem?_map, hx]; rfl
      have hLm := List.mem_of_getElem? hx
      have hLn := hXn L hLm
      have hwh := whole_pure G L (by omega) (by omega) (hXm L hLm)
      have hfl : ((X.take i).filter (okL G p whole)).length ≤ i := by have := List.length_filter_le (okL G p whole) (X.take i); rw [List.length_take] at this; omega
      have hfm : (((X.take i).filter (okL G p whole)).map dIs).length ≤ 100000000 := by rw [List.length_map]; omega
      have htk : (X.take (i + 1)).filter (okL G p whole) = (X.take i).filter (okL G p whole) ++ if okL G p whole L then [L] else [] := by
        rw [List.take_add_one, hx, List.filter_append]
        congr 1
        by_cases h : okL G p whole L <;> simp [h]
      have hmE : (madeE G.edges L).length ≤ 1000000 := by
        have := rowsF_len (pairF G.edges L) L.length L.length
        have h2 : L.length * L.length ≤ 8 * 8 := Nat.mul_le_mul (by omega) (by omega)
        unfold madeE; omega
      (conv => whnf)
      (repeat' ((first | refine ord_ok (by (conv => whnf); (repeat' ((first | refine at_da hxd rfl ?_ | refine call_eq rfl hwh ?_ | refine ify ?_ | refine ifn ?_ | refine i6 ?_ | refine ati ?_ | refine mst ?_ | refine rmd ?_ | refine ibo (fun _ => ?_) (fun _ => ?_)) <;> conv => whnf)); (all_goals (repeat' (first | exact trivial | exact rfl | refine And.intro ?_ ?_)))) ?_ | refine at_da hxd rfl ?_ | refine call_eq rfl hwh ?_ | refine ify ?_ | refine ifn ?_ | refine i6 ?_ | refine ati ?_ | refine mst ?_ | refine rmd ?_ | refine ibo (fun _ => ?_) (fun _ => ?_)) <;> conv => whnf))
      refine loop_lo (ι := Nat) (fun v => v ≤ p.labels.length) (fun v => [(16, .d (.int .i64 v)), (15, .d (.bool (okN (cL G p L) (dLt G.edges p whole L) v))), (14, .own 14), (13, .d (.int .i64 i)), (12, .own 301), (7, .d (dLL X)), (4, .own 4), (3, .own 3), (2, .d (.bool whole))]) (fun v => [(3, .cells 27 [.d (dIs G.labels), .d (dEs G.edges)]), (4, .cells 47 [.d (dIs p.labels), .d (dEs p.edges)]), (14, .cells 47 [.d (dIs (L.map (labelV G))), .d (dEs (madeE G.edges L))]), (301, .slice 22 1 (((X.take i).filter (okL G p whole)).map dIs))]) (fun v => p.labels.length - v) 0 (fun _ => rfl) (Nat.zero_le _) (.lax 15 rfl (.prop _ (decide_eq_true (by omega))) (.refl _ _)) ⟨rfl, rfl, rfl, rfl, rfl, rfl, rfl, rfl, rfl, trivial⟩ ⟨rfl, rfl, rfl, rfl, trivial⟩ ?_
      intro v hv
      refine sxCode_sound c1_ok (G := G_r12i) (pl := pl_r12i) _ _ _ _ (by kernel_rfl) ?_
      by_cases hvl : v < p.labels.length
      · have hLx := List.getElem?_eq_getElem (l := L) (i := v) (by omega)
        have hlx : ((L.map (labelV G)).map dI)[v]? = some (.int .i64 (labelV G ((L[v]?).getD 0))) := by rw [List.getElem?_map, List.getElem?_map, hLx]; rfl
        have hpx : (p.labels.map dI)[v]? = some (.int .i64 (plOf p v)) := by
          rw [List.getElem?_map, List.getElem?_eq_getElem hvl]
          unfold plOf
          rw [List.getElem?_eq_getElem hvl]; rfl
        cases hb : okN (cL G p L) (dLt G.edges p whole L) v with
        | false =>
          (conv => whnf)
          (repeat' ((first | refine ord_ok (by (conv => whnf); (repeat' ((first | refine at_da hlx rfl ?_ | refine at_da hpx rfl ?_ | refine ify ?_ | refine ifn ?_ | refine i6 ?_ | refine ati ?_ | refine mst ?_ | refine rmd ?_ | refine ibo (fun _ => ?_) (fun _ => ?_)) <;> conv => whnf)); (all_goals (repeat' (first | exact trivial | exact rfl | refine And.intro ?_ ?_)))) ?_ | refine at_da hlx rfl ?_ | refine at_da hpx rfl ?_ | refine ify ?_ | refine ifn ?_ | refine i6 ?_ | refine ati ?_ | refine mst ?_ | refine rmd ?_ | refine ibo (fun _ => ?_) (fun _ => ?_)) <;> conv => whnf))
          refine loop_lo (ι := Nat) (fun u => u ≤ v) (fun u => [(17, .d (.int .i64 u)), (16, .d (.int .i64 v)), (15, .d (.bool (okIv (okN (cL G p L) (dLt G.edges p whole L) v && cL G p L v) (fun u => dLt G.edges p whole L u v) u))), (14, .own 14), (13, .d (.int .i64 i)), (12, .own 301), (7, .d (dLL X)), (4, .own 4), (3, .own 3), (2, .d (.bool whole))]) (fun u => [(3, .cells 27 [.d (dIs G.labels), .d (dEs G.edges)]), (4, .cells 47 [.d (dIs p.labels), .d (dEs p.edges)]), (14, .cells 47 [.d (dIs (L.map (labelV G))), .d (dEs (madeE G.edges L))]), (301, .slice 22 1 (((X.take i).filter (okL G p whole)).map dIs))]) (fun u => v - u) 0 (fun _ => rfl) (Nat.zero_le _) (.refl _ _) ⟨rfl, rfl, by show _ = Dat.d (.bool (okN _ _ _ && _)); rw [hb]; rfl, rfl, rfl, rfl, rfl, rfl, rfl, rfl, trivial⟩ ⟨rfl, rfl, rfl, rfl, trivial⟩ ?_
          intro u hu
          refine sxCode_sound c1_ok (G := G_r12i) (pl := pl_r12i) _ _ _ _ (by kernel_rfl) ?_
          by_cases hul : u < v
          · have h1 := rhas_pure ⟨L.map (labelV G), madeE G.edges L⟩ u v (by simp only; omega)
            have h2 := rhas_pure p u v (by omega)
            have hd : dLt G.edges p whole L u v = ((hasR (madeE G.edges L) u v || !hasR p.edges u v) && (hasR p.edges u v || !hasR (madeE G.edges L) u v || !whole)) := rfl
            have hst : okIv (okN (cL G p L) (dLt G.edges p whole L) v && cL G p L v) (fun u => dLt G.edges p whole L u v) (u + 1) = (okIv (okN (cL G p L) (dLt G.edges p whole L) v && cL G p L v) (fun u => dLt G.edges p whole L u v) u && dLt G.edges p whole L u v) := rfl
            rw [hd] at hst
            cases hb : okIv (okN (cL G p L) (dLt G.edges p whole L) v && cL G p L v) (fun u => dLt G.edges p whole L u v) u <;> cases his : hasR (madeE G.edges L) u v <;> cases hwa : hasR p.edges u v <;> cases hwo : whole <;> rw [hb, his, hwa, hwo] at hst <;> rw [his] at h1 <;> rw [hwa] at h2 <;> (conv => whnf) <;> (repeat' ((first | refine ord_ok (by (conv => whnf); (repeat' ((first | refine call_eq rfl h1 ?_ | refine call_eq rfl h2 ?_ | refine ify ?_ | refine ifn ?_ | refine i6 ?_ | refine ati ?_ | refine mst ?_ | refine rmd ?_ | refine ibo (fun _ => ?_) (fun _ => ?_)) <;> conv => whnf)); (all_goals (repeat' (first | exact trivial | exact rfl | refine And.intro ?_ ?_)))) ?_ | refine call_eq rfl h1 ?_ | refine call_eq rfl h2 ?_ | refine ify ?_ | refine ifn ?_ | refine i6 ?_ | refine ati ?_ | refine mst ?_ | refine rmd ?_ | refine ibo (fun _ => ?_) (fun _ => ?_)) <;> conv => whnf))
            all_goals exact ⟨u + 1, _, _, by omega, .refl _ _, ⟨rfl, rfl, by rw [hst]; rfl, rfl, rfl, rfl, rfl, rfl, rfl, rfl, trivial⟩, ⟨rfl, rfl, rfl, rfl, trivial⟩, by omega⟩
          · have hue : u = v := by omega
            subst hue
            ((conv => whnf); repeat' ((first | refine odw ?_ | refine ify ?_ | refine ifn ?_ | refine i6 ?_ | refine ati ?_ | refine mst ?_ | refine rmd ?_ | refine ibo (fun _ => ?_) (fun _ => ?_)) <;> conv => whnf))
            exact ⟨u + 1, _, _, by omega, .refl _ _, ⟨rfl, rfl, rfl, rfl, rfl, rfl, rfl, rfl, rfl, trivial⟩, ⟨rfl, rfl, rfl, rfl, trivial⟩, by omega⟩
        | true =>
          (conv => whnf)
          (repeat' ((first | refine ord_ok (by (conv => whnf); (repeat' ((first | refine at_da hlx rfl ?_ | refine at_da hpx rfl ?_ | refine ify ?_ | refine ifn ?_ | refine i6 ?_ | refine ati ?_ | refine mst ?_ | refine rmd ?_ | refine ibo (fun _ => ?_) (fun _ => ?_)) <;> conv => whnf)); (all_goals (repeat' (first | exact trivial | exact rfl | refine And.intro ?_ ?_)))) ?_ | refine at_da hlx rfl ?_ | refine at_da hpx rfl ?_ | refine ify ?_ | refine ifn ?_ | refine i6 ?_ | refine ati ?_ | refine mst ?_ | refine rmd ?_ | refine ibo (fun _ => ?_) (fun _ => ?_)) <;> conv => whnf))
          refine loop_lo (ι := Nat) (fun u => u ≤ v) (fun u => [(17, .d (.int .i64 u)), (16, .d (.int .i64 v)), (15, .d (.bool (okIv (okN (cL G p L) (dLt G.edges p whole L) v && cL G p L v) (fun u => dLt G.edges p whole L u v) u))), (14, .own 14), (13, .d (.int .i64 i)), (12, .own 301), (7, .d (dLL X)), (4, .own 4), (3, .own 3), (2, .d (.bool whole))]) (fun u => [(3, .cells 27 [.d (dIs G.labels), .d (dEs G.edges)]), (4, .cells 47 [.d (dIs p.labels), .d (dEs p.edges)]), (14, .cells 47 [.d (dIs (L.map (labelV G))), .d (dEs (madeE G.edges L))]), (301, .slice 22 1 (((X.take i).filter (okL G p whole)).map dIs))]) (fun u => v - u) 0 (fun _ => rfl) (Nat.zero_le _) (.lax 15 rfl (.prop _ rfl) (.refl _ _)) ⟨rfl, rfl, by show _ = Dat.d (.bool (okN _ _ _ && _)); rw [hb, Bool.true_and]; rfl, rfl, rfl, rfl, rfl, rfl, rfl, rfl, trivial⟩ ⟨rfl, rfl, rfl, rfl, trivial⟩ ?_
          intro u hu
          refine sxCode_sound c1_ok (G := G_r12i) (pl := pl_r12i) _ _ _ _ (by kernel_rfl) ?_
          by_cases hul : u < v
          · have h1 := rhas_pure ⟨L.map (labelV G), madeE G.edges L⟩ u v (by simp only; omega)
            have h2 := rhas_pure p u v (by omega)
            have hd : dLt G.edges p whole L u v = ((hasR (madeE G.edges L) u v || !hasR p.edges u v) && (hasR p.edges u v || !hasR (madeE G.edges L) u v || !whole)) := rfl
            have hst : okIv (okN (cL G p L) (dLt G.edges p whole L) v && cL G p L v) (fun u => dLt G.edges p whole L u v) (u + 1) = (okIv (okN (cL G p L) (dLt G.edges p whole L) v && cL G p L v) (fun u => dLt G.edges p whole L u v) u && dLt G.edges p whole L u v) := rfl
            rw [hd] at hst
            cases hb : okIv (okN (cL G p L) (dLt G.edges p whole L) v && cL G p L v) (fun u => dLt G.edges p whole L u v) u <;> cases his : hasR (madeE G.edges L) u v <;> cases hwa : hasR p.edges u v <;> cases hwo : whole <;> rw [hb, his, hwa, hwo] at hst <;> rw [his] at h1 <;> rw [hwa] at h2 <;> (conv => whnf) <;> (repeat' ((first | refine ord_ok (by (conv => whnf); (repeat' ((first | refine call_eq rfl h1 ?_ | refine call_eq rfl h2 ?_ | refine ify ?_ | refine ifn ?_ | refine i6 ?_ | refine ati ?_ | refine mst ?_ | refine rmd ?_ | refine ibo (fun _ => ?_) (fun _ => ?_)) <;> conv => whnf)); (all_goals (repeat' (first | exact trivial | exact rfl | refine And.intro ?_ ?_)))) ?_ | refine call_eq rfl h1 ?_ | refine call_eq rfl h2 ?_ | refine ify ?_ | refine ifn ?_ | refine i6 ?_ | refine ati ?_ | refine mst ?_ | refine rmd ?_ | refine ibo (fun _ => ?_) (fun _ => ?_)) <;> conv => whnf))
            all_goals exact ⟨u + 1, _, _, by omega, .refl _ _, ⟨rfl, rfl, by rw [hst]; rfl, rfl, rfl, rfl, rfl, rfl, rfl, rfl, trivial⟩, ⟨rfl, rfl, rfl, rfl, trivial⟩, by omega⟩
          · have hue : u = v := by omega
            subst hue
            ((conv => whnf); repeat' ((first | refine odw ?_ | refine ify ?_ | refine ifn ?_ | refine i6 ?_ | refine ati ?_ | refine mst ?_ | refine rmd ?_ | refine ibo (fun _ => ?_) (fun _ => ?_)) <;> conv => whnf))
            exact ⟨u + 1, _, _, by omega, .refl _ _, ⟨rfl, rfl, rfl, rfl, rfl, rfl, rfl, rfl, rfl, trivial⟩, ⟨rfl, rfl, rfl, rfl, trivial⟩, by omega⟩
      · have hve : v = p.labels.length := by omega
        subst hve
        cases hb : okN (cL G p L) (dLt G.edges p whole L) p.labels.length with
        | false =>
          have ho : okL G p whole L = false := hb
          rw [ho, if_neg (by decide), List.append_nil] at htk
          ((conv => whnf); repeat' ((first | refine odw ?_ | refine ify ?_ | refine ifn ?_ | refine i6 ?_ | refine ati ?_ | refine mst ?_ | refine rmd ?_ | refine ibo (fun _ => ?_) (fun _ => ?_)) <;> conv => whnf))
          exact ⟨i + 1, _, _, by omega, .refl _ _, ⟨rfl, rfl, rfl, rfl, rfl, rfl, trivial⟩, ⟨rfl, rfl, slice_is (by rw [htk]), trivial⟩, by omega⟩
        | true =>
          have ho : okL G p whole L = true := hb
          rw [ho, if_pos rfl] at htk
          (conv => whnf)
          (repeat' ((first | refine ord_ok (by (conv => whnf); (repeat' ((first | refine at_da hxd rfl ?_ | refine ify ?_ | refine ifn ?_ | refine i6 ?_ | refine ati ?_ | refine mst ?_ | refine rmd ?_ | refine ibo (fun _ => ?_) (fun _ => ?_)) <;> conv => whnf)); (all_goals (repeat' (first | exact trivial | exact rfl | refine And.intro ?_ ?_)))) ?_ | refine at_da hxd rfl ?_ | refine ify ?_ | refine ifn ?_ | refine i6 ?_ | refine ati ?_ | refine mst ?_ | refine rmd ?_ | refine ibo (fun _ => ?_) (fun _ => ?_)) <;> conv => whnf))
          exact ⟨i + 1, _, _, by omega, .refl _ _, ⟨rfl, rfl, rfl, rfl, rfl, rfl, trivial⟩, ⟨rfl, rfl, slice_is (by rw [htk, List.map_append]; rfl), trivial⟩, by omega⟩
    · have hie : i = X.length := by omega
      subst hie
      rw [List.take_length]
      ((conv => whnf); repeat' ((first | refine odw ?_ | refine ify ?_ | refine ifn ?_ | refine i6 ?_ | refine ati ?_ | refine mst ?_ | refine rmd ?_ | refine ibo (fun _ => ?_) (fun _ => ?_)) <;> conv => whnf))
      exact rfl
end Go.Proofs.YteigfapjiekdnaaGreatDoor
end

section
/- quick, plain: images are those of the document. -/
namespace Go.Gr
open Go.Proofs.YteigfapjiekdnaaGreatDoor
theorem turn_lt {a b : Int} (h : a ≤ b) : turn ⟨a, b⟩ = ⟨a, b⟩ := by unfold turn; simp only [Edg.mk.injEq]; omega
theorem turn_gt {a b : Int} (h : b ≤ a) : turn ⟨a, b⟩ = ⟨b, a⟩ := by unfold turn; simp only [Edg.mk.injEq]; omega
theorem hasR_turn {E : List Edg} (h : ∀ e ∈ E, e.a < e.b) (x y : Int) : hasR E x y = decide (turn ⟨x, y⟩ ∈ E) := by
  rw [Bool.eq_iff_iff, decide_eq_true_eq]
  unfold hasR
  rw [List.any_eq_true]
  constructor
  · rintro ⟨e, he, hc⟩
    have hc := of_decide_eq_true hc
    have hl := h e he
    obtain ⟨a, b⟩ := e
    simp only at hc hl
    rcases hc with ⟨rfl, rfl⟩ | ⟨rfl, rfl⟩
    · rw [turn_lt (by omega)]; exact he
    · rw [turn_gt (by omega)]; exact he
  · intro he
    refine ⟨_, he, decide_eq_true ?_⟩
    rcases Int.le_total x y with hxy | hxy
    · rw [turn_lt hxy]; exact .inl ⟨rfl, rfl⟩
    · rw [turn_gt hxy]; exact .inr ⟨rfl, rfl⟩
theorem madeE_lt {E : List Edg} {L : List Int} : ∀ e ∈ madeE E L, e.a < e.b := by
  intro e he
  obtain ⟨j, x, _, _, h, _, rfl⟩ := mem_rowsF.1 he
  simp only; omega
theorem hasR_made {E : List Edg} {L : List Int} {u v : Nat} (huv : u < v) (hv : v < L.length) : hasR (madeE E L) u v = pairF E L u v := by
  rw [hasR_turn madeE_lt, turn_lt (by omega), Bool.eq_iff_iff, decide_eq_true_eq]
  unfold madeE
  rw [mem_rowsF]
  constructor
  · rintro ⟨j, x, h1, h2, h3, h4, h5⟩
    simp only [Edg.mk.injEq] at h5
    have e1 : u = j := by omega
    have e2 : v = x := by omega
    rw [e1, e2]; exact h4
  · intro h
    exact ⟨u, v, by omega, hv, huv, h, rfl⟩
theorem okI_iff {G : Gr} {p : Pt} {whole : Bool} {l : List Int} {v : Int} : okI G p whole l v = true ↔ labelV G v = plOf p l.length ∧ v ∉ l ∧ ∀ k u, k < l.length → l[k]? = some u → okB G p whole l.length k u v = true := by
  constructor
  · intro h
    refine ⟨Decidable.byContradiction fun hn => ?_, okI_not h, fun k u _ hx => ?_⟩
    · rw [okI_label hn] at h; cases h
    · cases hb : okB G p whole l.length k u v with
      | true => rfl
      | false => rw [okI_at hx hb] at h; cases h
  · rintro ⟨h1, h2, h3⟩
    exact okI_yes h1 h2 h3
theorem okAll0_iff {ok : List Int → Int → Bool} {L : List Int} : okAll ok 0 L = true ↔ ∀ i v, L[i]? = some v → ok (L.take i) v = true := by
  simp only [okAll, List.all_eq_true, List.mem_range, Bool.or_eq_true, decide_eq_true_eq]
  constructor
  · intro h i v hx
    have := h i (List.getElem?_eq_some_iff.1 hx).1
    rw [hx] at this
    rcases this with h | h
    · omega
    · exact h
  · intro h i hi
    right
    rw [List.getElem?_eq_getElem hi]
    exact h i _ (List.getElem?_eq_getElem hi)
theorem images_same {G : Gr} (hG : G.Ok) {p : Pt} (hp : pErr p = none) (whole : Bool) : imgs G.labels.length (okI G p whole) p.labels.length [] = (iterL G.labels.length p.labels.length [[]]).filter (okL G p whole) := by
  have hpe : ∀ e ∈ p.edges, e.a < e.b := by
    unfold pErr at hp
    split at hp
    · cases hp
    · exact fun e he => ((eErr_none hp).1 e he).2.1
  have hGe : ∀ e ∈ G.edges, e.a < e.b := fun e he => (hG.edge e he).2.1
  rw [imgs_eq (fun l v h => okI_not h)]
  refine List.filter_congr fun L hL => ?_
  have hLn := iterL_len _ _ hL
  obtain ⟨hnd, _⟩ := iterL_mem hL
  rw [List.length_nil, Bool.eq_iff_iff, okAll0_iff]
  unfold okL
  rw [okN_iff]
  have key : ∀ u v x y, u < v → L[u]? = some x → L[v]? = some y → okB G p whole v u x y = dLt G.edges p whole L u v := by
    intro u v x y huv hx hy
    have hvl := (List.getElem?_eq_some_iff.1 hy).1
    unfold okB dLt
    rw [hasR_made huv hvl]
    unfold pairF
    rw [hx, hy]
    simp only [Option.getD_some]
    rw [hasR_turn hGe, hasR_turn hpe]
    unfold hasG phOf
    cases decide (turn ⟨x, y⟩ ∈ G.edges) <;> cases decide (turn ⟨(u : Int), (v : Int)⟩ ∈ p.edges) <;> cases whole <;> rfl
  constructor
  · intro h k hk
    have hx := List.getElem?_eq_getElem (l := L) (i := k) (by omega)
    have h1 := okI_iff.1 (h k _ hx)
    rw [List.length_take, Nat.min_eq_left (by omega)] at h1
    refine ⟨?_, fun u hu => ?_⟩
    · unfold cL; rw [hx]; exact decide_eq_true h1.1
    · have hy := List.getElem?_eq_getElem (l := L) (i := u) (by omega)
      rw [← key u k _ _ hu hy hx]
      exact h1.2.2 u _ hu (by rw [List.getElem?_take, if_pos hu]; exact hy)
  · intro h k v hx
    have hk := (List.getElem?_eq_some_iff.1 hx).1
    obtain ⟨h1, h2⟩ := h k (by omega)
    rw [okI_iff, List.length_take, Nat.min_eq_left (by omega)]
    refine ⟨?_, fun hm => ?_, fun u x hu hy => ?_⟩
    · unfold cL at h1
      rw [hx] at h1
      exact of_decide_eq_true h1
    · obtain ⟨u, hu, e⟩ := List.mem_take_iff_getElem.1 hm
      have h3 := (List.pairwise_iff_getElem.1 hnd) u k (by omega) hk (by omega)
      rw [(List.getElem?_eq_some_iff.1 hx).2] at h3
      exact h3 e
    · rw [List.getElem?_take, if_pos hu] at hy
      rw [key u k _ _ hu hy hx]
      exact h2 u hu
end Go.Gr
end

section
/- quick, plain: how many images there are (for QuickCounts). -/
namespace Go.Gr
/-! ### how many images there are -/
theorem mem_iterL (n : Nat) : ∀ (k : Nat) (L : List Int), L ∈ iterL n k [[]] ↔ L.length = k ∧ L.Nodup ∧ ∀ x ∈ L, 0 ≤ x ∧ x < (n : Int)
  | 0, L => by
    show L ∈ [[]] ↔ _
    rw [List.mem_singleton]
    constructor
    · rintro rfl; exact ⟨rfl, List.nodup_nil, by simp⟩
    · intro h; exact List.eq_nil_of_length_eq_zero h.1
  | k + 1, L => by
    rw [iterL_succ]
    simp only [stepL, List.mem_flatMap, List.mem_map, List.mem_filter, List.mem_range, Bool.not_eq_true', decide_eq_false_iff_not]
    constructor
    · rintro ⟨l, hl, v, ⟨hv, hn⟩, rfl⟩
      obtain ⟨h1, h2, h3⟩ := (mem_iterL n k l).1 hl
      refine ⟨by simp [h1], ?_, fun x hx => ?_⟩
      · rw [List.nodup_append]
        exact ⟨h2, by simp, fun a ha b hb => by rw [List.mem_singleton.1 hb]; exact fun e => hn (e ▸ ha)⟩
      · rcases List.mem_append.1 hx with hx | hx
        · exact h3 x hx
        · rw [List.mem_singleton.1 hx]; omega
    · rintro ⟨h1, h2, h3⟩
      have hne : L ≠ [] := fun e => by rw [e] at h1; cases h1
      obtain ⟨l, v, rfl⟩ : ∃ l v, L = l ++ [v] := ⟨L.dropLast, L.getLast hne, (List.dropLast_concat_getLast hne).symm⟩
      rw [List.nodup_append] at h2
      obtain ⟨g1, _, g3⟩ := h2
      have hv := h3 v (by simp)
      refine ⟨l, (mem_iterL n k l).2 ⟨by simpa using h1, g1, fun x hx => h3 x (by simp [hx])⟩, v.toNat, ⟨by omega, fun hm => ?_⟩, by rw [Int.toNat_of_nonneg hv.1]⟩
      rw [Int.toNat_of_nonneg hv.1] at hm
      exact g3 v hm v (by simp) rfl
theorem iterL_nodup (n : Nat) : ∀ (k : Nat), (iterL n k [[]]).Nodup
  | 0 => by simp [iterL]
  | k + 1 => by
    rw [iterL_succ]
    have ih := iterL_nodup n k
    have hl : ∀ l ∈ iterL n k [[]], l.length = k := fun l hl => iterL_len n k hl
    generalize iterL n k [[]] = X at ih hl
    unfold stepL
    rw [List.Nodup, List.pairwise_flatMap]
    refine ⟨fun l _ => ?_, ?_⟩
    · refine List.pairwise_map.2 (List.Pairwise.imp ?_ (List.nodup_range.filter _))
      intro u v huv e
      have := List.append_cancel_left e
      simp at this; omega
    · refine List.Pairwise.imp_of_mem ?_ ih
      intro a b ha hb hab x hx y hy e
      obtain ⟨u, _, rfl⟩ := List.mem_map.1 hx
      obtain ⟨v, _, rfl⟩ := List.mem_map.1 hy
      have := (List.append_inj e (by rw [hl a ha, hl b hb])).1
      exact hab this
end Go.Gr
end

section
/- quick, plain: images by their places; how many. -/
namespace Go.Gr
open Go.Proofs.YteigfapjiekdnaaGreatDoor
theorem sub_len {α : Type} [DecidableEq α] : ∀ {l m : List α}, l.Nodup → (∀ x ∈ l, x ∈ m) → l.length ≤ m.length
  | [], _, _, _ => Nat.zero_le _
  | x :: l, m, hn, hs => by
    have hx : x ∈ m := hs x (by simp)
    rw [List.nodup_cons] at hn
    have h := sub_len (m := m.erase x) hn.2 fun y hy => by
      have hne : y ≠ x := fun e => hn.1 (e ▸ hy)
      exact (List.mem_erase_of_ne hne).2 (hs y (by simp [hy]))
    rw [List.length_erase_of_mem hx] at h
    have := List.length_pos_of_mem hx
    rw [List.length_cons]; omega
theorem nodup_le {α : Type} [DecidableEq α] {l m : List α} (hn : l.Nodup) (hs : ∀ x ∈ l, x ∈ m) : l.length ≤ m.length := sub_len hn hs
def imgP (G : Gr) (p : Pt) (whole : Bool) : List (List Int) := imgs G.labels.length (okI G p whole) p.labels.length []
structure IsImg (G : Gr) (p : Pt) (whole : Bool) (L : List Int) : Prop where
  len : L.length = p.labels.length
  nodup : L.Nodup
  lt : ∀ x ∈ L, 0 ≤ x ∧ x < (G.labels.length : Int)
  label : ∀ i x, L[i]? = some x → labelV G x = plOf p i
  has : ∀ i j x y, i ≠ j → L[i]? = some x → L[j]? = some y → phOf p i j = true → hasG G x y = true
  only : whole = true → ∀ i j x y, i ≠ j → L[i]? = some x → L[j]? = some y → hasG G x y = true → phOf p i j = true
theorem turn_comm (a b : Int) : turn ⟨a, b⟩ = turn ⟨b, a⟩ := by unfold turn; simp only [Edg.mk.injEq]; omega
theorem phOf_comm (p : Pt) (i j : Nat) : phOf p i j = phOf p j i := by unfold phOf; rw [turn_comm]
theorem hasG_comm (G : Gr) (x y : Int) : hasG G x y = hasG G y x := by unfold hasG; rw [turn_comm]
theorem okB_iff {G : Gr} {p : Pt} {whole : Bool} {n i : Nat} {u v : Int} : okB G p whole n i u v = true ↔ (phOf p i n = true → hasG G u v = true) ∧ (whole = true → hasG G u v = true → phOf p i n = true) := by
  unfold okB
  cases phOf p i n <;> cases hasG G u v <;> cases whole <;> simp
theorem nodup_at {L : List Int} (h : L.Nodup) {i j : Nat} {x : Int} (hi : L[i]? = some x) (hj : L[j]? = some x) : i = j := by
  obtain ⟨h1, e1⟩ := List.getElem?_eq_some_iff.1 hi
  obtain ⟨h2, e2⟩ := List.getElem?_eq_some_iff.1 hj
  rcases Nat.lt_trichotomy i j with hl | hl | hl
  · exact absurd (e1.trans e2.symm) (List.pairwise_iff_getElem.1 h i j h1 h2 hl)
  · exact hl
  · exact absurd (e2.trans e1.symm) (List.pairwise_iff_getElem.1 h j i h2 h1 hl)
theorem mem_imgP {G : Gr} {p : Pt} {whole : Bool} {L : List Int} : L ∈ imgP G p whole ↔ IsImg G p whole L := by
  unfold imgP
  rw [imgs_eq (fun l v h => okI_not h), List.mem_filter, mem_iterL, List.length_nil, okAll0_iff]
  constructor
  · rintro ⟨⟨h1, h2, h3⟩, h4⟩
    have key : ∀ i v, L[i]? = some v → labelV G v = plOf p i ∧ ∀ k u, k < i → L[k]? = some u → okB G p whole i k u v = true := by
      intro i v hv
      have hil := (List.getElem?_eq_some_iff.1 hv).1
      have := okI_iff.1 (h4 i v hv)
      rw [List.length_take, Nat.min_eq_left (by omega)] at this
      exact ⟨this.1, fun k u hk hu => this.2.2 k u hk (by rw [List.getElem?_take, if_pos hk]; exact hu)⟩
    refine ⟨h1, h2, h3, fun i x hx => (key i x hx).1, fun i j x y hij hx hy hp => ?_, fun hw i j x y hij hx hy hp => ?_⟩
    · rcases Nat.lt_or_gt_of_ne hij with h | h
      · exact (okB_iff.1 ((key j y hy).2 i x h hx)).1 hp
      · rw [hasG_comm]
        exact (okB_iff.1 ((key i x hx).2 j y h hy)).1 (by rw [phOf_comm]; exact hp)
    · rcases Nat.lt_or_gt_of_ne hij with h | h
      · exact (okB_iff.1 ((key j y hy).2 i x h hx)).2 hw hp
      · rw [phOf_comm]
        exact (okB_iff.1 ((key i x hx).2 j y h hy)).2 hw (by rw [hasG_comm]; exact hp)
  · intro h
    refine ⟨⟨h.len, h.nodup, h.lt⟩, fun i v hv => ?_⟩
    have hil := (List.getElem?_eq_some_iff.1 hv).1
    rw [okI_iff, List.length_take, Nat.min_eq_left (by omega)]
    refine ⟨h.label i v hv, fun hm => ?_, fun k u hk hu => ?_⟩
    · obtain ⟨u, hu, e⟩ := List.mem_take_iff_getElem.1 hm
      have := nodup_at h.nodup hv (List.getElem?_eq_some_iff.2 ⟨by omega, e⟩)
      omega
    · rw [List.getElem?_take, if_pos hk] at hu
      exact okB_iff.2 ⟨fun hp => h.has k i u v (by omega) hu hv hp, fun hw hp => h.only hw k i u v (by omega) hu hv hp⟩
theorem imgP_nodup (G : Gr) (p : Pt) (whole : Bool) : (imgP G p whole).Nodup := by
  unfold imgP
  rw [imgs_eq (fun l v h => okI_not h)]
  exact (iterL_nodup _ _).filter _
theorem imgP_le {G : Gr} {p q : Pt} {w v : Bool} (h : ∀ L, IsImg G p w L → IsImg G q v L) : (imgP G p w).length ≤ (imgP G q v).length :=
  nodup_le (imgP_nodup G p w) fun L hL => mem_imgP.2 (h L (mem_imgP.1 hL))
theorem img_loose {G : Gr} {p : Pt} {w : Bool} {L : List Int} (h : IsImg G p w L) : IsImg G p false L := ⟨h.len, h.nodup, h.lt, h.label, h.has, fun e => by cases e⟩
def cntL (G : Gr) (x : Int) (v : Nat) : Nat := ((List.range v).filter fun v : Nat => decide (labelV G v = x)).length
theorem cntL_succ (G : Gr) (x : Int) (v : Nat) : cntL G x (v + 1) = cntL G x v + if labelV G v = x then 1 else 0 := by
  unfold cntL
  rw [List.range_succ, List.filter_append, List.length_append]
  congr 1
  by_cases h : labelV G v = x <;> simp [h]
theorem cntL_le (G : Gr) (x : Int) (v : Nat) : cntL G x v ≤ v := by
  unfold cntL
  exact Nat.le_trans (List.length_filter_le _ _) (by simp)
theorem ok_one (G : Gr) (x : Int) (w : Bool) (v : Int) : okI G ⟨[x], []⟩ w [] v = decide (labelV G v = x) := by simp [okI, fitV, plOf]
theorem imgP_one (G : Gr) (x : Int) (w : Bool) : imgP G ⟨[x], []⟩ w = ((List.range G.labels.length).filter fun v : Nat => decide (labelV G v = x)).map fun v : Nat => [(v : Int)] := by
  show imgs G.labels.length _ 1 [] = _
  simp only [imgs, ok_one, List.nil_append]
  generalize (List.range G.labels.length).filter _ = R
  induction R with
  | nil => rfl
  | cons v R ih => rw [List.flatMap_cons, ih]; rfl
theorem imgP_one_len (G : Gr) (x : Int) (w : Bool) : (imgP G ⟨[x], []⟩ w).length = cntL G x G.labels.length := by
  rw [imgP_one, List.length_map]; rfl
end Go.Gr
end
