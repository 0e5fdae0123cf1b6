/- vert: List. · vert: fits, Canonical, May. · vert: Next. · vert: Bare. -/
import Derived.Test.YtmkbgbnehokmmaaGreatVsb
import Derived.Test.YtmkbgbnehokmmaaGreatVla
import Derived.Test.YtmkbgbnehokmmaaGreatLnp
namespace Go.Proofs.YtmkbgbnehokmmaaGreat
open Go.Sx Go.RowKit Go.Reg Go.Gr

set_option maxRecDepth 100000
/-- may a vertex come next? -/
def nextP (E : List Edg) (l : List Int) (v : Int) : Bool := decide (l = []) || decide (0 ≤ besV E l v)
/-- the list of what is left behind some that were put -/
def listR (E : List Edg) : Nat → List Int → List Int → Option (List Int)
  | 0, l, _ => some l
  | n + 1, l, left => match left.findIdx? (nextP E l) with
    | some i => listR E n (l ++ [left[i]?.getD 0]) (left.eraseIdx i)
    | none => none
def listY : Option (List Int) → Da
  | some l => .tuple [dIs l, .bool true]
  | none => .tuple [.nils, .bool false]
/-- the list of a set -/
def listV (G : Gr) (s : List Int) : Option (List Int) := if (setOf s).any (fun v => !hasV G v) = true then none else listR G.edges (setOf s).length [] (setOf s)
def pl_vl1 : List (Nat × Plan) := []
def G_vl1 : List FuncId := [32]
theorem cok_vl1 : codeOk Tryz.prog G_vl1 pl_vl1 (Tryz.f31.body.getD .skip) = true := by kernel_rfl
theorem run_vl1 (vs : Array Value) (w : World) : (callFunc 31 vs).run C1.P w = .ok (.enter 31 vs) w := by kernel_rfl
theorem list1_pure (G : Gr) (v : Int) : Pure C1 31 [.int .i64 v, .ref (dG G)] (fun y => y = .bool (!hasV G v)) := by
  refine pure_of c1_ok (pl := pl_vl1) (G := G_vl1) Tryz.func31 rfl Tryz.ntmps31 run_vl1 cok_vl1 (by simp) ?_
  (conv => whnf)
  (repeat' ((first | refine ord_ok (by (conv => whnf); (repeat' ((first | refine call_eq rfl (vhas_pure G v) ?_ | refine ify ?_ | refine ifn ?_ | refine i6 ?_ | refine ati ?_ | refine mst ?_ | refine rmd ?_ | refine ibo (fun _ => ?_) (fun _ => ?_)) <;> conv => whnf)); (all_goals (repeat' (first | exact trivial | exact rfl | refine And.intro ?_ ?_)))) ?_ | refine call_eq rfl (vhas_pure G v) ?_ | refine ify ?_ | refine ifn ?_ | refine i6 ?_ | refine ati ?_ | refine mst ?_ | refine rmd ?_ | refine ibo (fun _ => ?_) (fun _ => ?_)) <;> conv => whnf))
  exact rfl
def pl_vl2 : List (Nat × Plan) := []
def G_vl2 : List FuncId := [35]
theorem cok_vl2 : codeOk Tryz.prog G_vl2 pl_vl2 (Tryz.f34.body.getD .skip) = true := by kernel_rfl
theorem run_vl2 (vs : Array Value) (w : World) : (callFunc 34 vs).run C1.P w = .ok (.enter 34 vs) w := by kernel_rfl
theorem list2_pure (G : Gr) (hG : G.Ok) (l : List Int) (v : Int) : Pure C1 34 [.int .i64 v, .ref (dIs l), .ref (dG G)] (fun y => y = .bool (nextP G.edges l v)) := by
  have hll : (l.map dI).length = l.length := List.length_map _
  refine pure_of c1_ok (pl := pl_vl2) (G := G_vl2) Tryz.func34 rfl Tryz.ntmps34 run_vl2 cok_vl2 (by simp) ?_
  by_cases h : l = []
  · subst h
    (conv => whnf)
    (repeat' ((first | refine ord_ok (by (conv => whnf); (repeat' ((first | refine call_eq rfl (bes_pure G hG [] v) ?_ | refine ify ?_ | refine ifn ?_ | refine i6 ?_ | refine ati ?_ | refine mst ?_ | refine rmd ?_ | refine ibo (fun _ => ?_) (fun _ => ?_)) <;> conv => whnf)); (all_goals (repeat' (first | exact trivial | exact rfl | refine And.intro ?_ ?_)))) ?_ | refine call_eq rfl (bes_pure G hG [] v) ?_ | refine ify ?_ | refine ifn ?_ | refine i6 ?_ | refine ati ?_ | refine mst ?_ | refine rmd ?_ | refine ibo (fun _ => ?_) (fun _ => ?_)) <;> conv => whnf))
    exact rfl
  · have hl0 : ¬ ((l.map dI).length : Int) = 0 := by rw [hll]; have := List.length_pos_iff.2 h; omega
    (conv => whnf)
    (repeat' ((first | refine ord_ok (by (conv => whnf); (repeat' ((first | refine call_eq rfl (bes_pure G hG l v) ?_ | refine ify ?_ | refine ifn ?_ | refine i6 ?_ | refine ati ?_ | refine mst ?_ | refine rmd ?_ | refine ibo (fun _ => ?_) (fun _ => ?_)) <;> conv => whnf)); (all_goals (repeat' (first | exact trivial | exact rfl | refine And.intro ?_ ?_)))) ?_ | refine call_eq rfl (bes_pure G hG l v) ?_ | refine ify ?_ | refine ifn ?_ | refine i6 ?_ | refine ati ?_ | refine mst ?_ | refine rmd ?_ | refine ibo (fun _ => ?_) (fun _ => ?_)) <;> conv => whnf))
    show Da.plain _ = _
    simp [Da.plain, nextP, h]
def pl_vls : List (Nat × Plan) := [(9, .leaf [1, 0, 0, 0, 1, 6, 3, 3] [1, 2, 3, 0, 4, 5, 6, 7] [0, 0, 0, 6, 14, 30, 63, 127])]
def G_vls : List FuncId := [29, 30, 33]
theorem cok_vls : codeOk Tryz.prog G_vls pl_vls (Tryz.f13.body.getD .skip) = true := by kernel_rfl
theorem run_vls (vs : Array Value) (w : World) : (callFunc 13 vs).run C1.P w = .ok (.enter 13 vs) w := by kernel_rfl
set_option maxHeartbeats 4000000 in
theorem list_pure (G : Gr) (hG : G.Ok) (s : List Int) (hs : s.length ≤ 4294967296) : Pure C1 13 [dG G, dIs s] (fun y => y = listY (listV G s)) := by
  have hsl := setOf_len s
  have hcf := containsF_pure (setOf s) 31 [.ref (dG G)] (fun v => !hasV G v) (fun v _ => list1_pure G v)
  have hof := of_mksl s hs
  unfold listV
  generalize setOf s = z at hsl hcf hof
  refine pure_of c1_ok (pl := pl_vls) (G := G_vls) Tryz.func13 rfl Tryz.ntmps13 run_vls cok_vls (by simp) ?_
  (conv => whnf)
  (repeat' ((first | refine ord_ok (by (conv => whnf); (repeat' ((first | refine call_eq rfl (len_pure G) ?_ | refine ify ?_ | refine ifn ?_ | refine i6 ?_ | refine ati ?_ | refine mst ?_ | refine rmd ?_ | refine ibo (fun _ => ?_) (fun _ => ?_)) <;> conv => whnf)); (all_goals (repeat' (first | exact trivial | exact rfl | refine And.intro ?_ ?_)))) ?_ | refine call_eq rfl (len_pure G) ?_ | refine ify ?_ | refine ifn ?_ | refine i6 ?_ | refine ati ?_ | refine mst ?_ | refine rmd ?_ | refine ibo (fun _ => ?_) (fun _ => ?_)) <;> conv => whnf))
  refine call_mksl 300 rfl rfl hof ?_; rintro ds rfl
  cases hz : z.any (fun v => !hasV G v) with
  | true =>
    rw [hz] at hcf
    rw [if_pos rfl]
    (conv => whnf)
    (repeat' ((first | refine ord_ok (by (conv => whnf); (repeat' ((first | refine call_eqb tab rfl hcf rfl ?_ | refine ify ?_ | refine ifn ?_ | refine i6 ?_ | refine ati ?_ | refine mst ?_ | refine rmd ?_ | refine ibo (fun _ => ?_) (fun _ => ?_)) <;> conv => whnf)); (all_goals (repeat' (first | exact trivial | exact rfl | refine And.intro ?_ ?_)))) ?_ | refine call_eqb tab rfl hcf rfl ?_ | refine ify ?_ | refine ifn ?_ | refine i6 ?_ | refine ati ?_ | refine mst ?_ | refine rmd ?_ | refine ibo (fun _ => ?_) (fun _ => ?_)) <;> conv => whnf))
    exact rfl
  | false =>
    rw [hz] at hcf
    simp only [Bool.false_eq_true, if_false]
    (conv => whnf)
    (repeat' ((first | refine ord_ok (by (conv => whnf); (repeat' ((first | refine call_eqb tab rfl hcf rfl ?_ | refine ify ?_ | refine ifn ?_ | refine i6 ?_ | refine ati ?_ | refine mst ?_ | refine rmd ?_ | refine ibo (fun _ => ?_) (fun _ => ?_)) <;> conv => whnf)); (all_goals (repeat' (first | exact trivial | exact rfl | refine And.intro ?_ ?_)))) ?_ | refine call_eqb tab rfl hcf rfl ?_ | refine ify ?_ | refine ifn ?_ | refine i6 ?_ | refine ati ?_ | refine mst ?_ | refine rmd ?_ | refine ibo (fun _ => ?_) (fun _ => ?_)) <;> conv => whnf))
    refine loop_lo (ι := List Int × List Int) (fun x => listR G.edges x.2.length x.1 x.2 = listR G.edges z.length [] z ∧ x.1.length + x.2.length = z.length)
      (fun x => [(7, .own 7), (6, .own 300), (2, .own 2)])
      (fun x => [(2, .cells 25 [.d (dG G)]), (7, .cells 22 [.own 301]), (300, .slice 3 1 (x.2.map dI)), (301, .slice 3 1 (x.1.map dI))])
      (fun x => x.2.length) ([], z) (fun _ => rfl) ⟨rfl, by simp⟩ (.ownc 7 301 3 1 rfl rfl (.here _) (.refl _ _)) ⟨rfl, rfl, rfl, trivial⟩ ⟨rfl, rfl, rfl, rfl, trivial⟩ ?_
    rintro ⟨l, left⟩ ⟨hR, hlen⟩
    dsimp only at hR hlen
    rw [← hR]
    have hll : (l.map dI).length = l.length := List.length_map _
    have hfl : (left.map dI).length = left.length := List.length_map _
    refine sxCode_sound c1_ok (G := G_vls) (pl := pl_vls) _ _ _ _ (by kernel_rfl) ?_
    cases left with
    | nil =>
      have h0 : ¬ (0 < ((List.map dI ((l, []) : List Int × List Int).snd).length : Int)) := by simp
      ((conv => whnf); repeat' ((first | refine odw ?_ | refine ify ?_ | refine ifn ?_ | refine i6 ?_ | refine ati ?_ | refine mst ?_ | refine rmd ?_ | refine ibo (fun _ => ?_) (fun _ => ?_)) <;> conv => whnf))
      exact rfl
    | cons x0 rest =>
      have hif := indexF_pure (x0 :: rest) 34 [.ref (dIs l), .ref (dG G)] (nextP G.edges l) (fun v _ => list2_pure G hG l v)
      have hpos : 0 < (x0 :: rest).length := by simp
      generalize x0 :: rest = left at *
      obtain ⟨n, hn⟩ : ∃ n, left.length = n + 1 := ⟨left.length - 1, by omega⟩
      rw [hn] at hR ⊢
      simp only [listR] at hR ⊢
      unfold idxF at hif
      cases hfi : left.findIdx? (nextP G.edges l) with
      | none =>
        rw [hfi] at hif
        simp only [optI] at hif
        (conv => whnf)
        (repeat' ((first | refine ord_ok (by (conv => whnf); (repeat' ((first | refine call_eqb tab rfl hif rfl ?_ | refine ify ?_ | refine ifn ?_ | refine i6 ?_ | refine ati ?_ | refine mst ?_ | refine rmd ?_ | refine ibo (fun _ => ?_) (fun _ => ?_)) <;> conv => whnf)); (all_goals (repeat' (first | exact trivial | exact rfl | refine And.intro ?_ ?_)))) ?_ | refine call_eqb tab rfl hif rfl ?_ | refine ify ?_ | refine ifn ?_ | refine i6 ?_ | refine ati ?_ | refine mst ?_ | refine rmd ?_ | refine ibo (fun _ => ?_) (fun _ => ?_)) <;> conv => whnf))
        exact rfl
      | some i =>
        rw [hfi] at hif hR
        simp only [optI] at hif hR
        have hil : i < left.length := by
          rw [List.findIdx?_eq_some_iff_getElem] at hfi
          exact hfi.1
        have hx := List.getElem?_eq_getElem hil
        generalize left[i] = x at hx
        have hxd : (left.map dI)[i]? = some (.int .i64 x) := by rw [List.getElem?_map, hx]; rfl
        rw [hx] at hR
        simp only [Option.getD_some] at hR
        have hel : (left.eraseIdx i).length = n := by rw [List.length_eraseIdx, if_pos hil]; omega
        have hde := delete_eat left i hil
        (conv => whnf)
        (repeat' ((first | refine ord_ok (by (conv => whnf); (repeat' ((first | refine call_eqb tab rfl hif rfl ?_ | refine el_at (i := i) rfl (by omega) ?_ | refine el_is hxd ?_ | refine ify ?_ | refine ifn ?_ | refine i6 ?_ | refine ati ?_ | refine mst ?_ | refine rmd ?_ | refine ibo (fun _ => ?_) (fun _ => ?_)) <;> conv => whnf)); (all_goals (repeat' (first | exact trivial | exact rfl | refine And.intro ?_ ?_)))) ?_ | refine call_eqb tab rfl hif rfl ?_ | refine el_at (i := i) rfl (by omega) ?_ | refine el_is hxd ?_ | refine ify ?_ | refine ifn ?_ | refine i6 ?_ | refine ati ?_ | refine mst ?_ | refine rmd ?_ | refine ibo (fun _ => ?_) (fun _ => ?_)) <;> conv => whnf))
        refine call_eat rfl rfl hde ?_; rintro ds rfl
        ((conv => whnf); repeat' ((first | refine odw ?_ | refine ify ?_ | refine ifn ?_ | refine i6 ?_ | refine ati ?_ | refine mst ?_ | refine rmd ?_ | refine ibo (fun _ => ?_) (fun _ => ?_)) <;> conv => whnf))
        have hfin : l.map dI ++ [.int .i64 x] = (l ++ [x]).map dI := by rw [List.map_append]; rfl
        refine ⟨(l ++ [x], left.eraseIdx i), _, _, ⟨?_, ?_⟩, .refl _ _, ⟨rfl, rfl, rfl, trivial⟩, ⟨rfl, rfl, rfl, slice_is hfin, trivial⟩, by dsimp only; omega⟩
        · dsimp only; rw [hel, hx]; rfl
        · dsimp only; rw [List.length_append, hel]; simp; omega
end Go.Proofs.YtmkbgbnehokmmaaGreat

namespace Go.Proofs.YtmkbgbnehokmmaaGreat
open Go.Sx Go.RowKit Go.Reg Go.Gr

set_option maxRecDepth 100000
/-- may a vertex come behind a canonical list? -/
def fitsV (G : Gr) (l : List Int) (v : Int) : Bool := match l[0]? with
  | none => hasV G v
  | some y => match l.findIdx? (besP G.edges v) with
    | none => false
    | some i => !decide (v ∈ l) && (!decide (v < y) && !(l.drop (i + 1)).any (fun u => decide (v < u)))
theorem dIs_drop (l : List Int) (i : Nat) : dIs (l.drop i) = .list 1 ((l.map dI).drop i) := by unfold dIs; rw [List.map_drop]
def pl_vf1 : List (Nat × Plan) := []
def G_vf1 : List FuncId := []
theorem cok_vf1 : codeOk Tryz.prog G_vf1 pl_vf1 (Tryz.f55.body.getD .skip) = true := by kernel_rfl
theorem run_vf1 (vs : Array Value) (w : World) : (callFunc 55 vs).run C1.P w = .ok (.enter 55 vs) w := by kernel_rfl
theorem fits1_pure (v u : Int) : Pure C1 55 [.int .i64 u, .ref (.int .i64 v)] (fun y => y = .bool (decide (v < u))) := by
  refine pure_of c1_ok (pl := pl_vf1) (G := G_vf1) Tryz.func55 rfl Tryz.ntmps55 run_vf1 cok_vf1 (by simp) ?_
  ((conv => whnf); repeat' ((first | refine odw ?_ | refine ify ?_ | refine ifn ?_ | refine i6 ?_ | refine ati ?_ | refine mst ?_ | refine rmd ?_ | refine ibo (fun _ => ?_) (fun _ => ?_)) <;> conv => whnf))
  exact rfl
def pl_vft : List (Nat × Plan) := [(4, .leaf [0, 0, 0, 0, 1, 2, 0, 0, 1, 0, 0, 1, 0, 0] [0, 1, 2, 3, 4, 5, 6, 7, 9, 10, 8, 11, 12, 13] [0, 1, 3, 7, 7, 31, 63, 127, 255, 255, 767, 1791, 4095, 8191])]
def G_vft : List FuncId := [32, 35, 40, 30]
theorem cok_vft : codeOk Tryz.prog G_vft pl_vft (Tryz.f26.body.getD .skip) = true := by kernel_rfl
theorem run_vft (vs : Array Value) (w : World) : (callFunc 26 vs).run C1.P w = .ok (.enter 26 vs) w := by kernel_rfl
theorem fits_pure (G : Gr) (hG : G.Ok) (l : List Int) (v : Int) : Pure C1 26 [dG G, dIs l, .int .i64 v] (fun y => y = .bool (fitsV G l v)) := by
  refine Pure.assume (fun O w us hr => by obtain ⟨v, vs, rfl, h1, h2⟩ := reps_inv hr; obtain ⟨v2, vs2, rfl, h3, _⟩ := reps_inv h2; exact ints_len h3) fun hm => ?_
  have hll : (l.map dI).length = l.length := List.length_map _
  refine pure_of c1_ok (pl := pl_vft) (G := G_vft) Tryz.func26 rfl Tryz.ntmps26 run_vft cok_vft (by simp) ?_
  cases hx : l[0]? with
  | none =>
    have hl : l = [] := by cases l with | nil => rfl | cons x l => simp at hx
    subst hl
    (conv => whnf)
    (repeat' ((first | refine ord_ok (by (conv => whnf); (repeat' ((first | refine call_eq rfl (vhas_pure G v) ?_ | refine ify ?_ | refine ifn ?_ | refine i6 ?_ | refine ati ?_ | refine mst ?_ | refine rmd ?_ | refine ibo (fun _ => ?_) (fun _ => ?_)) <;> conv => whnf)); (all_goals (repeat' (first | exact trivial | exact rfl | refine And.intro ?_ ?_)))) ?_ | refine call_eq rfl (vhas_pure G v) ?_ | refine ify ?_ | refine ifn ?_ | refine i6 ?_ | refine ati ?_ | refine mst ?_ | refine rmd ?_ | refine ibo (fun _ => ?_) (fun _ => ?_)) <;> conv => whnf))
    exact rfl
  | some y =>
    have hpos := (List.getElem?_eq_some_iff.1 hx).1
    have hxd : (l.map dI)[0]? = some (.int .i64 y) := by rw [List.getElem?_map, hx]; rfl
    have hbs := bes_pure G hG l v
    have hct := contains_pure l v
    have he : fitsV G l v = match l.findIdx? (besP G.edges v) with
      | none => false
      | some i => !decide (v ∈ l) && (!decide (v < y) && !(l.drop (i + 1)).any (fun u => decide (v < u))) := by unfold fitsV; rw [hx]
    rw [he]
    unfold besV idxF at hbs
    cases hf : l.findIdx? (besP G.edges v) with
    | none =>
      rw [hf] at hbs
      simp only [optI] at hbs
      (conv => whnf)
      (repeat' ((first | refine ord_ok (by (conv => whnf); (repeat' ((first | refine call_eq rfl hbs ?_ | refine ify ?_ | refine ifn ?_ | refine i6 ?_ | refine ati ?_ | refine mst ?_ | refine rmd ?_ | refine ibo (fun _ => ?_) (fun _ => ?_)) <;> conv => whnf)); (all_goals (repeat' (first | exact trivial | exact rfl | refine And.intro ?_ ?_)))) ?_ | refine call_eq rfl hbs ?_ | refine ify ?_ | refine ifn ?_ | refine i6 ?_ | refine ati ?_ | refine mst ?_ | refine rmd ?_ | refine ibo (fun _ => ?_) (fun _ => ?_)) <;> conv => whnf))
      exact rfl
    | some i =>
      rw [hf] at hbs
      simp only [optI] at hbs
      have hil : i < l.length := by
        rw [List.findIdx?_eq_some_iff_getElem] at hf
        exact hf.1
      by_cases hc : v ∈ l
      · rw [decide_eq_true hc] at hct ⊢
        (conv => whnf)
        (repeat' ((first | refine ord_ok (by (conv => whnf); (repeat' ((first | refine call_eq rfl hbs ?_ | refine call_eq rfl hct ?_ | refine ify ?_ | refine ifn ?_ | refine i6 ?_ | refine ati ?_ | refine mst ?_ | refine rmd ?_ | refine ibo (fun _ => ?_) (fun _ => ?_)) <;> conv => whnf)); (all_goals (repeat' (first | exact trivial | exact rfl | refine And.intro ?_ ?_)))) ?_ | refine call_eq rfl hbs ?_ | refine call_eq rfl hct ?_ | refine ify ?_ | refine ifn ?_ | refine i6 ?_ | refine ati ?_ | refine mst ?_ | refine rmd ?_ | refine ibo (fun _ => ?_) (fun _ => ?_)) <;> conv => whnf))
        exact rfl
      · rw [decide_eq_false hc] at hct ⊢
        by_cases hv : v < y
        · rw [decide_eq_true hv]
          (conv => whnf)
          (repeat' ((first | refine ord_ok (by (conv => whnf); (repeat' ((first | refine call_eq rfl hbs ?_ | refine call_eq rfl hct ?_ | refine at_da hxd rfl ?_ | refine ify ?_ | refine ifn ?_ | refine i6 ?_ | refine ati ?_ | refine mst ?_ | refine rmd ?_ | refine ibo (fun _ => ?_) (fun _ => ?_)) <;> conv => whnf)); (all_goals (repeat' (first | exact trivial | exact rfl | refine And.intro ?_ ?_)))) ?_ | refine call_eq rfl hbs ?_ | refine call_eq rfl hct ?_ | refine at_da hxd rfl ?_ | refine ify ?_ | refine ifn ?_ | refine i6 ?_ | refine ati ?_ | refine mst ?_ | refine rmd ?_ | refine ibo (fun _ => ?_) (fun _ => ?_)) <;> conv => whnf))
          exact rfl
        · rw [decide_eq_false hv]
          have hcf := containsF_pure (l.drop (i + 1)) 55 [.ref (.int .i64 v)] (fun u => decide (v < u)) (fun u _ => fits1_pure v u)
          rw [dIs_drop] at hcf
          (conv => whnf)
          (repeat' ((first | refine ord_ok (by (conv => whnf); (repeat' ((first | refine call_eq rfl hbs ?_ | refine call_eq rfl hct ?_ | refine at_da hxd rfl ?_ | refine sl_is (i + 1) rfl (by omega) ?_ | refine call_eqb tab rfl hcf rfl ?_ | refine ify ?_ | refine ifn ?_ | refine i6 ?_ | refine ati ?_ | refine mst ?_ | refine rmd ?_ | refine ibo (fun _ => ?_) (fun _ => ?_)) <;> conv => whnf)); (all_goals (repeat' (first | exact trivial | exact rfl | refine And.intro ?_ ?_)))) ?_ | refine call_eq rfl hbs ?_ | refine call_eq rfl hct ?_ | refine at_da hxd rfl ?_ | refine sl_is (i + 1) rfl (by omega) ?_ | refine call_eqb tab rfl hcf rfl ?_ | refine ify ?_ | refine ifn ?_ | refine i6 ?_ | refine ati ?_ | refine mst ?_ | refine rmd ?_ | refine ibo (fun _ => ?_) (fun _ => ?_)) <;> conv => whnf))
          exact rfl
/-- is a list canonical? -/
def canonV (G : Gr) (l : List Int) : Bool := (List.range l.length).all fun i => match l[i]? with
  | some v => fitsV G (l.take i) v
  | none => true
theorem canonV_no {G : Gr} {l : List Int} {i : Nat} {v : Int} (h : l[i]? = some v) (h2 : fitsV G (l.take i) v = false) : canonV G l = false := by
  unfold canonV
  rw [List.all_eq_false]
  exact ⟨i, by simp [(List.getElem?_eq_some_iff.1 h).1], by simp [h, h2]⟩
theorem canonV_yes {G : Gr} {l : List Int} (h : ∀ (i : Nat) (v : Int), l[i]? = some v → fitsV G (l.take i) v = true) : canonV G l = true := by
  unfold canonV
  rw [List.all_eq_true]
  intro i _
  cases hx : l[i]? with
  | none => rfl
  | some v => exact h i v hx
def pl_vcn : List (Nat × Plan) := []
def G_vcn : List FuncId := [26]
theorem cok_vcn : codeOk Tryz.prog G_vcn pl_vcn (Tryz.f11.body.getD .skip) = true := by kernel_rfl
theorem run_vcn (vs : Array Value) (w : World) : (callFunc 11 vs).run C1.P w = .ok (.enter 11 vs) w := by kernel_rfl
theorem canon_pure (G : Gr) (hG : G.Ok) (l : List Int) : Pure C1 11 [dG G, dIs l] (fun y => y = .bool (canonV G l)) := by
  refine Pure.assume (fun O w us hr => by obtain ⟨v, vs, rfl, h1, h2⟩ := reps_inv hr; obtain ⟨v2, vs2, rfl, h3, _⟩ := reps_inv h2; exact ints_len h3) fun hm => ?_
  have hl : (l.map dI).length = l.length := List.length_map _
  refine pure_of c1_ok (pl := pl_vcn) (G := G_vcn) Tryz.func11 rfl Tryz.ntmps11 run_vcn cok_vcn (by simp) ?_
  ((conv => whnf); repeat' ((first | refine odw ?_ | refine ify ?_ | refine ifn ?_ | refine i6 ?_ | refine ati ?_ | refine mst ?_ | refine rmd ?_ | refine ibo (fun _ => ?_) (fun _ => ?_)) <;> conv => whnf))
  refine loop_lo (ι := Nat) (fun i => i ≤ l.length ∧ ∀ (j : Nat) (v : Int), j < i → l[j]? = some v → fitsV G (l.take j) v = true) (fun i => [(9, .d (.int .i64 i)), (8, .d (.int .i64 (l.map dI).length)), (7, .d (dIs l)), (1, .d (dIs l)), (0, .d (dG G))]) (fun _ => []) (fun i => l.length - i) 0 (fun _ => rfl) ⟨Nat.zero_le _, by intro j v h; omega⟩ (.refl _ _) ⟨rfl, rfl, rfl, rfl, rfl, trivial⟩ trivial ?_
  rintro i ⟨hi, hne⟩
  refine sxCode_sound c1_ok (G := G_vcn) (pl := pl_vcn) _ _ _ _ (by kernel_rfl) ?_
  by_cases hlt : i < l.length
  · have hx := List.getElem?_eq_getElem hlt
    generalize l[i] = y at hx
    have hxd : (l.map dI)[i]? = some (.int .i64 y) := by rw [List.getElem?_map, hx]; rfl
    have h1 := fits_pure G hG (l.take i) y
    rw [dIs_take] at h1
    have hi2 : i ≤ (l.map dI).length := by omega
    cases hv : fitsV G (l.take i) y with
    | false =>
      rw [hv] at h1
      rw [canonV_no hx hv]
      (conv => whnf)
      (repeat' ((first | refine ord_ok (by (conv => whnf); (repeat' ((first | refine at_da hxd rfl ?_ | refine hi_is rfl hi2 ?_ | refine call_eq rfl h1 ?_ | refine ify ?_ | refine ifn ?_ | refine i6 ?_ | refine ati ?_ | refine mst ?_ | refine rmd ?_ | refine ibo (fun _ => ?_) (fun _ => ?_)) <;> conv => whnf)); (all_goals (repeat' (first | exact trivial | exact rfl | refine And.intro ?_ ?_)))) ?_ | refine at_da hxd rfl ?_ | refine hi_is rfl hi2 ?_ | refine call_eq rfl h1 ?_ | refine ify ?_ | refine ifn ?_ | refine i6 ?_ | refine ati ?_ | refine mst ?_ | refine rmd ?_ | refine ibo (fun _ => ?_) (fun _ => ?_)) <;> conv => whnf))
      exact rfl
    | true =>
      rw [hv] at h1
      (conv => whnf)
      (repeat' ((first | refine ord_ok (by (conv => whnf); (repeat' ((first | refine at_da hxd rfl ?_ | refine hi_is rfl hi2 ?_ | refine call_eq rfl h1 ?_ | refine ify ?_ | refine ifn ?_ | refine i6 ?_ | refine ati ?_ | refine mst ?_ | refine rmd ?_ | refine ibo (fun _ => ?_) (fun _ => ?_)) <;> conv => whnf)); (all_goals (repeat' (first | exact trivial | exact rfl | refine And.intro ?_ ?_)))) ?_ | refine at_da hxd rfl ?_ | refine hi_is rfl hi2 ?_ | refine call_eq rfl h1 ?_ | refine ify ?_ | refine ifn ?_ | refine i6 ?_ | refine ati ?_ | refine mst ?_ | refine rmd ?_ | refine ibo (fun _ => ?_) (fun _ => ?_)) <;> conv => whnf))
      refine ⟨i + 1, _, _, ⟨hlt, ?_⟩, .refl _ _, ⟨rfl, rfl, rfl, rfl, rfl, trivial⟩, trivial, by omega⟩
      intro j v hj hjv
      by_cases hji : j = i
      · subst hji; rw [hx] at hjv; cases hjv; exact hv
      · exact hne j v (by omega) hjv
  · rw [canonV_yes (fun j v h => hne j v (by have := (List.getElem?_eq_some_iff.1 h).1; omega) h)]
    ((conv => whnf); repeat' ((first | refine odw ?_ | refine ify ?_ | refine ifn ?_ | refine i6 ?_ | refine ati ?_ | refine mst ?_ | refine rmd ?_ | refine ibo (fun _ => ?_) (fun _ => ?_)) <;> conv => whnf))
    exact rfl
def pl_vmy : List (Nat × Plan) := []
def G_vmy : List FuncId := [11, 26]
theorem cok_vmy : codeOk Tryz.prog G_vmy pl_vmy (Tryz.f18.body.getD .skip) = true := by kernel_rfl
theorem run_vmy (vs : Array Value) (w : World) : (callFunc 18 vs).run C1.P w = .ok (.enter 18 vs) w := by kernel_rfl
theorem may_pure (G : Gr) (hG : G.Ok) (l : List Int) (v : Int) : Pure C1 18 [dG G, dIs l, .int .i64 v] (fun y => y = .bool (canonV G l && fitsV G l v)) := by
  refine pure_of c1_ok (pl := pl_vmy) (G := G_vmy) Tryz.func18 rfl Tryz.ntmps18 run_vmy cok_vmy (by simp) ?_
  have h1 := canon_pure G hG l
  have h2 := fits_pure G hG l v
  cases hc : canonV G l with
  | true =>
    rw [hc] at h1
    (conv => whnf)
    (repeat' ((first | refine ord_ok (by (conv => whnf); (repeat' ((first | refine call_eq rfl h1 ?_ | refine call_eq rfl h2 ?_ | refine ify ?_ | refine ifn ?_ | refine i6 ?_ | refine ati ?_ | refine mst ?_ | refine rmd ?_ | refine ibo (fun _ => ?_) (fun _ => ?_)) <;> conv => whnf)); (all_goals (repeat' (first | exact trivial | exact rfl | refine And.intro ?_ ?_)))) ?_ | refine call_eq rfl h1 ?_ | refine call_eq rfl h2 ?_ | refine ify ?_ | refine ifn ?_ | refine i6 ?_ | refine ati ?_ | refine mst ?_ | refine rmd ?_ | refine ibo (fun _ => ?_) (fun _ => ?_)) <;> conv => whnf))
    exact rfl
  | false =>
    rw [hc] at h1
    (conv => whnf)
    (repeat' ((first | refine ord_ok (by (conv => whnf); (repeat' ((first | refine call_eq rfl h1 ?_ | refine call_eq rfl h2 ?_ | refine ify ?_ | refine ifn ?_ | refine i6 ?_ | refine ati ?_ | refine mst ?_ | refine rmd ?_ | refine ibo (fun _ => ?_) (fun _ => ?_)) <;> conv => whnf)); (all_goals (repeat' (first | exact trivial | exact rfl | refine And.intro ?_ ?_)))) ?_ | refine call_eq rfl h1 ?_ | refine call_eq rfl h2 ?_ | refine ify ?_ | refine ifn ?_ | refine i6 ?_ | refine ati ?_ | refine mst ?_ | refine rmd ?_ | refine ibo (fun _ => ?_) (fun _ => ?_)) <;> conv => whnf))
    exact rfl
end Go.Proofs.YtmkbgbnehokmmaaGreat

namespace Go.Proofs.YtmkbgbnehokmmaaGreat
open Go.Sx Go.RowKit Go.Reg Go.Gr

set_option maxRecDepth 100000
theorem but_mksl (a b : List Int) (ha : a.length ≤ 4294967296) (hr : b.Pairwise (· < ·)) (hl : b.length ≤ 4294967296) : MakeSl C1 43 [dIs a, dIs b] 3 1 (fun ds => ds = (a.filter fun x => !decide (x ∈ b)).map dI) := by
  refine mksl_of c1_ok (pl := pl_sbut) (G := G_sbut) Tryz.func43 rfl Tryz.ntmps43 run_sbut cok_sbut (by simp) ?_
  (conv => whnf)
  refine call_mkslb tab 29 rfl rfl (kept_mksl a _ [.ref (dIs b)] _ ha (fun x _ => but1_pure b hr hl x)) (fun ds h => by subst h; exact flats_ints _) ?_; rintro ds rfl
  ((conv => whnf); repeat' ((first | refine odw ?_ | refine ify ?_ | refine ifn ?_ | refine i6 ?_ | refine ati ?_ | refine mst ?_ | refine rmd ?_ | refine ibo (fun _ => ?_) (fun _ => ?_)) <;> conv => whnf))
  exact ⟨rfl, rfl, rfl⟩
def nearI (G : Gr) (v : Int) : List Int := if 0 ≤ v ∧ v < G.labels.length then nearOf G.edges v.toNat else []
theorem nearI_len {G : Gr} (hG : G.Ok) (v : Int) : (nearI G v).length ≤ 32768 := by
  unfold nearI
  split
  · have := deg_le G.edges v.toNat
    have := hG.esize
    unfold deg at *; omega
  · simp
def nextV (G : Gr) (l : List Int) : List Int := if l = [] then upto G.labels.length else (setOf (l.flatMap (nearI G))).filter fun x => !decide (x ∈ setOf l)
theorem nears_len {G : Gr} (hG : G.Ok) (l : List Int) : (l.flatMap (nearI G)).length ≤ l.length * 32768 := by
  induction l with
  | nil => simp
  | cons x l ih =>
    have := nearI_len hG x
    simp only [List.flatMap_cons, List.length_append, List.length_cons]; omega
theorem nears_step {G : Gr} {l : List Int} {i : Nat} {x : Int} (h : l[i]? = some x) : (l.take (i + 1)).flatMap (nearI G) = (l.take i).flatMap (nearI G) ++ nearI G x := by
  rw [List.take_add_one, h, Option.toList_some, List.flatMap_append]; simp
def pl_vnx : List (Nat × Plan) := []
def G_vnx : List FuncId := [42]
theorem cok_vnx : codeOk Tryz.prog G_vnx pl_vnx (Tryz.f20.body.getD .skip) = true := by kernel_rfl
theorem run_vnx (vs : Array Value) (w : World) : (callFunc 20 vs).run C1.P w = .ok (.enter 20 vs) w := by kernel_rfl
theorem next_mksl (G : Gr) (hG : G.Ok) (l : List Int) (hb : l.length ≤ 100000) : MakeSl C1 20 [dG G, dIs l] 3 1 (fun ds => ds = (nextV G l).map dI) := by
  have hll : (l.map dI).length = l.length := List.length_map _
  have hsz := hG.size
  refine mksl_of c1_ok (pl := pl_vnx) (G := G_vnx) Tryz.func20 rfl Tryz.ntmps20 run_vnx cok_vnx (by simp) ?_
  unfold nextV
  by_cases hl : l = []
  · rw [if_pos hl]
    subst hl
    (conv => whnf)
    (repeat' ((first | refine ord_ok (by (conv => whnf); (repeat' ((first | refine call_eq rfl (len_pure G) ?_ | refine ify ?_ | refine ifn ?_ | refine i6 ?_ | refine ati ?_ | refine mst ?_ | refine rmd ?_ | refine ibo (fun _ => ?_) (fun _ => ?_)) <;> conv => whnf)); (all_goals (repeat' (first | exact trivial | exact rfl | refine And.intro ?_ ?_)))) ?_ | refine call_eq rfl (len_pure G) ?_ | refine ify ?_ | refine ifn ?_ | refine i6 ?_ | refine ati ?_ | refine mst ?_ | refine rmd ?_ | refine ibo (fun _ => ?_) (fun _ => ?_)) <;> conv => whnf))
    refine loop_lo (ι := Nat) (fun v => v ≤ G.labels.length) (fun v => [(14, .d (.int .i64 v)), (13, .d (.int .i64 G.labels.length)), (5, .own 300)]) (fun v => [(300, .slice 3 1 ((upto v).map dI))]) (fun v => G.labels.length - v) 0 (fun _ => rfl) (Nat.zero_le _)
      (.own 5 300 3 1 rfl rfl (.refl _ _)) ⟨rfl, rfl, rfl, trivial⟩ ⟨rfl, trivial⟩ ?_
    intro v hv
    refine sxCode_sound c1_ok (G := G_vnx) (pl := pl_vnx) _ _ _ _ (by kernel_rfl) ?_
    by_cases hlt : v < G.labels.length
    · have hul := upto_len v
      have hfin : (upto v).map dI ++ [.int .i64 (v : Int)] = (upto (v + 1)).map dI := by rw [upto_succ, List.map_append]; rfl
      ((conv => whnf); repeat' ((first | refine odw ?_ | refine ify ?_ | refine ifn ?_ | refine i6 ?_ | refine ati ?_ | refine mst ?_ | refine rmd ?_ | refine ibo (fun _ => ?_) (fun _ => ?_)) <;> conv => whnf))
      exact ⟨v + 1, _, _, hlt, .refl _ _, ⟨rfl, rfl, rfl, trivial⟩, ⟨slice_is hfin, trivial⟩, by omega⟩
    · have : v = G.labels.length := by omega
      subst this
      ((conv => whnf); repeat' ((first | refine odw ?_ | refine ify ?_ | refine ifn ?_ | refine i6 ?_ | refine ati ?_ | refine mst ?_ | refine rmd ?_ | refine ibo (fun _ => ?_) (fun _ => ?_)) <;> conv => whnf))
      exact ⟨rfl, rfl, rfl⟩
  · rw [if_neg hl]
    have hl0 : ¬ ((l.map dI).length : Int) = 0 := by rw [hll]; have := List.length_pos_iff.2 hl; omega
    ((conv => whnf); repeat' ((first | refine odw ?_ | refine ify ?_ | refine ifn ?_ | refine i6 ?_ | refine ati ?_ | refine mst ?_ | refine rmd ?_ | refine ibo (fun _ => ?_) (fun _ => ?_)) <;> conv => whnf))
    refine loop_lo (ι := Nat) (fun i => i ≤ l.length) (fun i => [(25, .d (.int .i64 i)), (24, .d (.int .i64 (l.map dI).length)), (23, .d (dIs l)), (5, .own 300), (1, .d (dIs l)), (0, .d (dG G))]) (fun i => [(300, .slice 3 1 (((l.take i).flatMap (nearI G)).map dI))]) (fun i => l.length - i) 0 (fun _ => rfl) (Nat.zero_le _)
      (.own 5 300 3 1 rfl rfl (.refl _ _)) ⟨rfl, rfl, rfl, rfl, rfl, rfl, trivial⟩ ⟨rfl, trivial⟩ ?_
    intro i hi
    refine sxCode_sound c1_ok (G := G_vnx) (pl := pl_vnx) _ _ _ _ (by kernel_rfl) ?_
    have hnl := nears_len hG (l.take i)
    rw [List.length_take] at hnl
    by_cases hlt : i < l.length
    · have hx := List.getElem?_eq_getElem hlt
      generalize l[i] = x at hx
      have hxd : (l.map dI)[i]? = some (.int .i64 x) := by rw [List.getElem?_map, hx]; rfl
      have hst := nears_step (G := G) hx
      have hxl := nearI_len hG x
      have hnp := near_pure G hG x
      have hml : ((l.take i).flatMap (nearI G)).length + (nearI G x).length ≤ 4294967296 := by omega
      unfold nearY at hnp
      unfold nearI at hst hxl hml
      by_cases hr : 0 ≤ x ∧ x < G.labels.length
      · rw [if_pos hr] at hnp hst hxl hml
        have hfin : ((l.take i).flatMap (nearI G)).map dI ++ (nearOf G.edges x.toNat).map dI = ((l.take (i + 1)).flatMap (nearI G)).map dI := by
          rw [← List.map_append]; exact congrArg (List.map dI) hst.symm
        (conv => whnf)
        (repeat' ((first | refine ord_ok (by (conv => whnf); (repeat' ((first | refine at_da hxd rfl ?_ | refine call_eq rfl hnp ?_ | refine ify ?_ | refine ifn ?_ | refine i6 ?_ | refine ati ?_ | refine mst ?_ | refine rmd ?_ | refine ibo (fun _ => ?_) (fun _ => ?_)) <;> conv => whnf)); (all_goals (repeat' (first | exact trivial | exact rfl | refine And.intro ?_ ?_)))) ?_ | refine at_da hxd rfl ?_ | refine call_eq rfl hnp ?_ | refine ify ?_ | refine ifn ?_ | refine i6 ?_ | refine ati ?_ | refine mst ?_ | refine rmd ?_ | refine ibo (fun _ => ?_) (fun _ => ?_)) <;> conv => whnf))
        exact ⟨i + 1, _, _, hlt, .refl _ _, ⟨rfl, rfl, rfl, rfl, rfl, rfl, trivial⟩, ⟨slice_is hfin, trivial⟩, by omega⟩
      · rw [if_neg hr] at hnp hst hxl hml
        have hfin : ((l.take i).flatMap (nearI G)).map dI ++ [] = ((l.take (i + 1)).flatMap (nearI G)).map dI := by
          rw [List.append_nil] at hst ⊢; exact congrArg (List.map dI) hst.symm
        (conv => whnf)
        (repeat' ((first | refine ord_ok (by (conv => whnf); (repeat' ((first | refine at_da hxd rfl ?_ | refine call_eq rfl hnp ?_ | refine ify ?_ | refine ifn ?_ | refine i6 ?_ | refine ati ?_ | refine mst ?_ | refine rmd ?_ | refine ibo (fun _ => ?_) (fun _ => ?_)) <;> conv => whnf)); (all_goals (repeat' (first | exact trivial | exact rfl | refine And.intro ?_ ?_)))) ?_ | refine at_da hxd rfl ?_ | refine call_eq rfl hnp ?_ | refine ify ?_ | refine ifn ?_ | refine i6 ?_ | refine ati ?_ | refine mst ?_ | refine rmd ?_ | refine ibo (fun _ => ?_) (fun _ => ?_)) <;> conv => whnf))
        exact ⟨i + 1, _, _, hlt, .refl _ _, ⟨rfl, rfl, rfl, rfl, rfl, rfl, trivial⟩, ⟨slice_is hfin, trivial⟩, by omega⟩
    · have hii : l.take i = l := List.take_of_length_le (by omega)
      rw [hii]
      have hnl2 := nears_len hG l
      have ho1 := of_pure (l.flatMap (nearI G)) (by omega)
      have ho2 := of_pure l (by omega)
      have hs1 := setOf_len (l.flatMap (nearI G))
      have hs2 := setOf_len l
      ((conv => whnf); repeat' ((first | refine odw ?_ | refine ify ?_ | refine ifn ?_ | refine i6 ?_ | refine ati ?_ | refine mst ?_ | refine rmd ?_ | refine ibo (fun _ => ?_) (fun _ => ?_)) <;> conv => whnf))
      refine call_frz 300 rfl ?_
      refine call_eq rfl ho1 ?_
      (conv => whnf)
      (repeat' ((first | refine ord_ok (by (conv => whnf); (repeat' ((first | refine call_eq rfl ho2 ?_ | refine ify ?_ | refine ifn ?_ | refine i6 ?_ | refine ati ?_ | refine mst ?_ | refine rmd ?_ | refine ibo (fun _ => ?_) (fun _ => ?_)) <;> conv => whnf)); (all_goals (repeat' (first | exact trivial | exact rfl | refine And.intro ?_ ?_)))) ?_ | refine call_eq rfl ho2 ?_ | refine ify ?_ | refine ifn ?_ | refine i6 ?_ | refine ati ?_ | refine mst ?_ | refine rmd ?_ | refine ibo (fun _ => ?_) (fun _ => ?_)) <;> conv => whnf))
      refine call_mksl 29 rfl rfl (but_mksl (setOf (l.flatMap (nearI G))) (setOf l) (by omega) (setOf_spec l).1 (by omega)) ?_; rintro ds rfl
      ((conv => whnf); repeat' ((first | refine odw ?_ | refine ify ?_ | refine ifn ?_ | refine i6 ?_ | refine ati ?_ | refine mst ?_ | refine rmd ?_ | refine ibo (fun _ => ?_) (fun _ => ?_)) <;> conv => whnf))
      exact ⟨rfl, rfl, rfl⟩
theorem next_pure (G : Gr) (hG : G.Ok) (l : List Int) (hb : l.length ≤ 100000) : Pure C1 20 [dG G, dIs l] (fun y => y = dIs (nextV G l)) := by
  have hll : (l.map dI).length = l.length := List.length_map _
  have hsz := hG.size
  refine pure_of c1_ok (pl := pl_vnx) (G := G_vnx) Tryz.func20 rfl Tryz.ntmps20 run_vnx cok_vnx (by simp) ?_
  unfold nextV
  by_cases hl : l = []
  · rw [if_pos hl]
    subst hl
    (conv => whnf)
    (repeat' ((first | refine ord_ok (by (conv => whnf); (repeat' ((first | refine call_eq rfl (len_pure G) ?_ | refine ify ?_ | refine ifn ?_ | refine i6 ?_ | refine ati ?_ | refine mst ?_ | refine rmd ?_ | refine ibo (fun _ => ?_) (fun _ => ?_)) <;> conv => whnf)); (all_goals (repeat' (first | exact trivial | exact rfl | refine And.intro ?_ ?_)))) ?_ | refine call_eq rfl (len_pure G) ?_ | refine ify ?_ | refine ifn ?_ | refine i6 ?_ | refine ati ?_ | refine mst ?_ | refine rmd ?_ | refine ibo (fun _ => ?_) (fun _ => ?_)) <;> conv => whnf))
    refine loop_lo (ι := Nat) (fun v => v ≤ G.labels.length) (fun v => [(14, .d (.int .i64 v)), (13, .d (.int .i64 G.labels.length)), (5, .own 300)]) (fun v => [(300, .slice 3 1 ((upto v).map dI))]) (fun v => G.labels.length - v) 0 (fun _ => rfl) (Nat.zero_le _)
      (.own 5 300 3 1 rfl rfl (.refl _ _)) ⟨rfl, rfl, rfl, trivial⟩ ⟨rfl, trivial⟩ ?_
    intro v hv
    refine sxCode_sound c1_ok (G := G_vnx) (pl := pl_vnx) _ _ _ _ (by kernel_rfl) ?_
    by_cases hlt : v < G.labels.length
    · have hul := upto_len v
      have hfin : (upto v).map dI ++ [.int .i64 (v : Int)] = (upto (v + 1)).map dI := by rw [upto_succ, List.map_append]; rfl
      ((conv => whnf); repeat' ((first | refine odw ?_ | refine ify ?_ | refine ifn ?_ | refine i6 ?_ | refine ati ?_ | refine mst ?_ | refine rmd ?_ | refine ibo (fun _ => ?_) (fun _ => ?_)) <;> conv => whnf))
      exact ⟨v + 1, _, _, hlt, .refl _ _, ⟨rfl, rfl, rfl, trivial⟩, ⟨slice_is hfin, trivial⟩, by omega⟩
    · have : v = G.labels.length := by omega
      subst this
      ((conv => whnf); repeat' ((first | refine odw ?_ | refine ify ?_ | refine ifn ?_ | refine i6 ?_ | refine ati ?_ | refine mst ?_ | refine rmd ?_ | refine ibo (fun _ => ?_) (fun _ => ?_)) <;> conv => whnf))
      exact rfl
  · rw [if_neg hl]
    have hl0 : ¬ ((l.map dI).length : Int) = 0 := by rw [hll]; have := List.length_pos_iff.2 hl; omega
    ((conv => whnf); repeat' ((first | refine odw ?_ | refine ify ?_ | refine ifn ?_ | refine i6 ?_ | refine ati ?_ | refine mst ?_ | refine rmd ?_ | refine ibo (fun _ => ?_) (fun _ => ?_)) <;> conv => whnf))
    refine loop_lo (ι := Nat) (fun i => i ≤ l.length) (fun i => [(25, .d (.int .i64 i)), (24, .d (.int .i64 (l.map dI).length)), (23, .d (dIs l)), (5, .own 300), (1, .d (dIs l)), (0, .d (dG G))]) (fun i => [(300, .slice 3 1 (((l.take i).flatMap (nearI G)).map dI))]) (fun i => l.length - i) 0 (fun _ => rfl) (Nat.zero_le _)
      (.own 5 300 3 1 rfl rfl (.refl _ _)) ⟨rfl, rfl, rfl, rfl, rfl, rfl, trivial⟩ ⟨rfl, trivial⟩ ?_
    intro i hi
    refine sxCode_sound c1_ok (G := G_vnx) (pl := pl_vnx) _ _ _ _ (by kernel_rfl) ?_
    have hnl := nears_len hG (l.take i)
    rw [List.length_take] at hnl
    by_cases hlt : i < l.length
    · have hx := List.getElem?_eq_getElem hlt
      generalize l[i] = x at hx
      have hxd : (l.map dI)[i]? = some (.int .i64 x) := by rw [List.getElem?_map, hx]; rfl
      have hst := nears_step (G := G) hx
      have hxl := nearI_len hG x
      have hnp := near_pure G hG x
      have hml : ((l.take i).flatMap (nearI G)).length + (nearI G x).length ≤ 4294967296 := by omega
      unfold nearY at hnp
      unfold nearI at hst hxl hml
      by_cases hr : 0 ≤ x ∧ x < G.labels.length
      · rw [if_pos hr] at hnp hst hxl hml
        have hfin : ((l.take i).flatMap (nearI G)).map dI ++ (nearOf G.edges x.toNat).map dI = ((l.take (i + 1)).flatMap (nearI G)).map dI := by
          rw [← List.map_append]; exact congrArg (List.map dI) hst.symm
        (conv => whnf)
        (repeat' ((first | refine ord_ok (by (conv => whnf); (repeat' ((first | refine at_da hxd rfl ?_ | refine call_eq rfl hnp ?_ | refine ify ?_ | refine ifn ?_ | refine i6 ?_ | refine ati ?_ | refine mst ?_ | refine rmd ?_ | refine ibo (fun _ => ?_) (fun _ => ?_)) <;> conv => whnf)); (all_goals (repeat' (first | exact trivial | exact rfl | refine And.intro ?_ ?_)))) ?_ | refine at_da hxd rfl ?_ | refine call_eq rfl hnp ?_ | refine ify ?_ | refine ifn ?_ | refine i6 ?_ | refine ati ?_ | refine mst ?_ | refine rmd ?_ | refine ibo (fun _ => ?_) (fun _ => ?_)) <;> conv => whnf))
        exact ⟨i + 1, _, _, hlt, .refl _ _, ⟨rfl, rfl, rfl, rfl, rfl, rfl, trivial⟩, ⟨slice_is hfin, trivial⟩, by omega⟩
      · rw [if_neg hr] at hnp hst hxl hml
        have hfin : ((l.take i).flatMap (nearI G)).map dI ++ [] = ((l.take (i + 1)).flatMap (nearI G)).map dI := by
          rw [List.append_nil] at hst ⊢; exact congrArg (List.map dI) hst.symm
        (conv => whnf)
        (repeat' ((first | refine ord_ok (by (conv => whnf); (repeat' ((first | refine at_da hxd rfl ?_ | refine call_eq rfl hnp ?_ | refine ify ?_ | refine ifn ?_ | refine i6 ?_ | refine ati ?_ | refine mst ?_ | refine rmd ?_ | refine ibo (fun _ => ?_) (fun _ => ?_)) <;> conv => whnf)); (all_goals (repeat' (first | exact trivial | exact rfl | refine And.intro ?_ ?_)))) ?_ | refine at_da hxd rfl ?_ | refine call_eq rfl hnp ?_ | refine ify ?_ | refine ifn ?_ | refine i6 ?_ | refine ati ?_ | refine mst ?_ | refine rmd ?_ | refine ibo (fun _ => ?_) (fun _ => ?_)) <;> conv => whnf))
        exact ⟨i + 1, _, _, hlt, .refl _ _, ⟨rfl, rfl, rfl, rfl, rfl, rfl, trivial⟩, ⟨slice_is hfin, trivial⟩, by omega⟩
    · have hii : l.take i = l := List.take_of_length_le (by omega)
      rw [hii]
      have hnl2 := nears_len hG l
      have ho1 := of_pure (l.flatMap (nearI G)) (by omega)
      have ho2 := of_pure l (by omega)
      have hs1 := setOf_len (l.flatMap (nearI G))
      have hs2 := setOf_len l
      ((conv => whnf); repeat' ((first | refine odw ?_ | refine ify ?_ | refine ifn ?_ | refine i6 ?_ | refine ati ?_ | refine mst ?_ | refine rmd ?_ | refine ibo (fun _ => ?_) (fun _ => ?_)) <;> conv => whnf))
      refine call_frz 300 rfl ?_
      refine call_eq rfl ho1 ?_
      (conv => whnf)
      (repeat' ((first | refine ord_ok (by (conv => whnf); (repeat' ((first | refine call_eq rfl ho2 ?_ | refine ify ?_ | refine ifn ?_ | refine i6 ?_ | refine ati ?_ | refine mst ?_ | refine rmd ?_ | refine ibo (fun _ => ?_) (fun _ => ?_)) <;> conv => whnf)); (all_goals (repeat' (first | exact trivial | exact rfl | refine And.intro ?_ ?_)))) ?_ | refine call_eq rfl ho2 ?_ | refine ify ?_ | refine ifn ?_ | refine i6 ?_ | refine ati ?_ | refine mst ?_ | refine rmd ?_ | refine ibo (fun _ => ?_) (fun _ => ?_)) <;> conv => whnf))
      refine call_mksl 29 rfl rfl (but_mksl (setOf (l.flatMap (nearI G))) (setOf l) (by omega) (setOf_spec l).1 (by omega)) ?_; rintro ds rfl
      ((conv => whnf); repeat' ((first | refine odw ?_ | refine ify ?_ | refine ifn ?_ | refine i6 ?_ | refine ati ?_ | refine mst ?_ | refine rmd ?_ | refine ibo (fun _ => ?_) (fun _ => ?_)) <;> conv => whnf))
      exact rfl
end Go.Proofs.YtmkbgbnehokmmaaGreat

namespace Go.Proofs.YtmkbgbnehokmmaaGreat
open Go.Sx Go.RowKit Go.Reg Go.Gr

set_option maxRecDepth 100000
theorem tk1 {l : List Int} {i : Nat} {x : Int} (h : l[i]? = some x) : l.take (i + 1) = l.take i ++ [x] := by rw [List.take_add_one, h]; rfl
def dOne (v : Int) : Da := dIs [v]
def pl_vbr : List (Nat × Plan) := []
def G_vbr : List FuncId := [20]
theorem cok_vbr : codeOk Tryz.prog G_vbr pl_vbr (Tryz.f7.body.getD .skip) = true := by kernel_rfl
theorem run_vbr (vs : Array Value) (w : World) : (callFunc 7 vs).run C1.P w = .ok (.enter 7 vs) w := by kernel_rfl
theorem bare_pure (G : Gr) (hG : G.Ok) : Pure C1 7 [dG G] (fun y => y = .list 1 ((upto G.labels.length).map dOne)) := by
  have hsz := hG.size
  have hnx : Pure C1 20 [dG G, .nils] (fun y => y = dIs (upto G.labels.length)) := Sx.Pure.lax (.cons (.refl _) (.cons (.nils 1) .nil)) (by
    have := next_pure G hG [] (by simp)
    rwa [show nextV G [] = upto G.labels.length from if_pos rfl] at this)
  have hul := upto_len G.labels.length
  generalize hL : upto G.labels.length = L at hnx hul
  have hLl : (L.map dI).length = L.length := List.length_map _
  refine pure_of c1_ok (pl := pl_vbr) (G := G_vbr) Tryz.func7 rfl Tryz.ntmps7 run_vbr cok_vbr (by simp) ?_
  (conv => whnf)
  (repeat' ((first | refine ord_ok (by (conv => whnf); (repeat' ((first | refine call_eq rfl hnx ?_ | refine ify ?_ | refine ifn ?_ | refine i6 ?_ | refine ati ?_ | refine mst ?_ | refine rmd ?_ | refine ibo (fun _ => ?_) (fun _ => ?_)) <;> conv => whnf)); (all_goals (repeat' (first | exact trivial | exact rfl | refine And.intro ?_ ?_)))) ?_ | refine call_eq rfl hnx ?_ | refine ify ?_ | refine ifn ?_ | refine i6 ?_ | refine ati ?_ | refine mst ?_ | refine rmd ?_ | refine ibo (fun _ => ?_) (fun _ => ?_)) <;> conv => whnf))
  refine loop_lo (ι := Nat) (fun i => i ≤ L.length) (fun i => [(9, .d (.int .i64 i)), (8, .d (.int .i64 (L.map dI).length)), (7, .d (dIs L)), (3, .own 300)]) (fun i => [(300, .slice 22 1 ((L.take i).map dOne))]) (fun i => L.length - i) 0 (fun _ => rfl) (Nat.zero_le _)
    (.own 3 300 22 1 rfl rfl (.refl _ _)) ⟨rfl, rfl, rfl, rfl, trivial⟩ ⟨rfl, trivial⟩ ?_
  intro i hi
  refine sxCode_sound c1_ok (G := G_vbr) (pl := pl_vbr) _ _ _ _ (by kernel_rfl) ?_
  by_cases hlt : i < L.length
  · have hx := List.getElem?_eq_getElem hlt
    generalize L[i] = x at hx
    have hxd : (L.map dI)[i]? = some (.int .i64 x) := by rw [List.getElem?_map, hx]; rfl
    (conv => whnf)
    (repeat' ((first | refine ord_ok (by (conv => whnf); (repeat' ((first | refine at_da hxd rfl ?_ | refine ify ?_ | refine ifn ?_ | refine i6 ?_ | refine ati ?_ | refine mst ?_ | refine rmd ?_ | refine ibo (fun _ => ?_) (fun _ => ?_)) <;> conv => whnf)); (all_goals (repeat' (first | exact trivial | exact rfl | refine And.intro ?_ ?_)))) ?_ | refine at_da hxd rfl ?_ | refine ify ?_ | refine ifn ?_ | refine i6 ?_ | refine ati ?_ | refine mst ?_ | refine rmd ?_ | refine ibo (fun _ => ?_) (fun _ => ?_)) <;> conv => whnf))
    refine op_again c1_ok (G := []) (.frz 15 rfl (.refl _ _)) (.inr rfl) ?_
    have hfin : (L.take i).map dOne ++ [.list 1 [.int .i64 x]] = (L.take (i + 1)).map dOne := by rw [tk1 hx, List.map_append]; rfl
    ((conv => whnf); repeat' ((first | refine odw ?_ | refine ify ?_ | refine ifn ?_ | refine i6 ?_ | refine ati ?_ | refine mst ?_ | refine rmd ?_ | refine ibo (fun _ => ?_) (fun _ => ?_)) <;> conv => whnf))
    exact ⟨i + 1, _, _, hlt, .refl _ _, ⟨rfl, rfl, rfl, rfl, trivial⟩, ⟨slice_is hfin, trivial⟩, by omega⟩
  · have hii : L.take i = L := List.take_of_length_le (by omega)
    rw [hii]
    ((conv => whnf); repeat' ((first | refine odw ?_ | refine ify ?_ | refine ifn ?_ | refine i6 ?_ | refine ati ?_ | refine mst ?_ | refine rmd ?_ | refine ibo (fun _ => ?_) (fun _ => ?_)) <;> conv => whnf))
    exact rfl
end Go.Proofs.YtmkbgbnehokmmaaGreat
