/- vert: List. -/
import Derived.Test.YtfkkfaociofkjaaVsb
import Derived.Test.YtfkkfaociofkjaaVlb
namespace Go.Proofs.Ytfkkfaociofkjaa
open Go.Sx Go.RowKit Go.Reg Go.Gr

set_option maxRecDepth 100000
/-- may a vertex come next? -/
def nextP (E : List Edg) (l : List Int) (v : Int) : Bool := decide (l = []) || decide (0 ≤ besV E l v)
/-- the list of what is left behind some that were put -/
def listR (E : List Edg) : Nat → List Int → List Int → Option (List Int)
  | 0, l, _ => some l
  | n + 1, l, left => match left.findIdx? (nextP E l) with
    | some i => listR E n (l ++ [left[i]?.getD 0]) (left.eraseIdx i)
    | none => none
def listY : Option (List Int) → Da
  | some l => .tuple [dIs l, .bool true]
  | none => .tuple [.nils, .bool false]
/-- the list of a set -/
def listV (G : Gr) (s : List Int) : Option (List Int) := if (setOf s).any (fun v => !hasV G v) = true then none else listR G.edges (setOf s).length [] (setOf s)
def pl_vl1 : List (Nat × Plan) := []
def G_vl1 : List FuncId := [47]
theorem cok_vl1 : codeOk Try.prog G_vl1 pl_vl1 (Try.f51.body.getD .skip) = true := by kernel_rfl
theorem run_vl1 (vs : Array Value) (w : World) : (callFunc 51 vs).run C1.P w = .ok (.enter 51 vs) w := by kernel_rfl
theorem list1_pure (G : Gr) (v : Int) : Pure C1 51 [.int .i64 v, .ref (dG G)] (fun y => y = .bool (!hasV G v)) := by
  refine pure_of c1_ok (pl := pl_vl1) (G := G_vl1) Try.func51 rfl Try.ntmps51 run_vl1 cok_vl1 (by simp) ?_
  (conv => whnf)
  (repeat' ((first | refine ord_ok (by (conv => whnf); (repeat' ((first | refine call_eq rfl (vhas_pure G v) ?_ | refine ify ?_ | refine ifn ?_ | refine i6 ?_ | refine ati ?_ | refine mst ?_ | refine rmd ?_ | refine ibo (fun _ => ?_) (fun _ => ?_)) <;> conv => whnf)); (all_goals (repeat' (first | exact trivial | exact rfl | refine And.intro ?_ ?_)))) ?_ | refine call_eq rfl (vhas_pure G v) ?_ | refine ify ?_ | refine ifn ?_ | refine i6 ?_ | refine ati ?_ | refine mst ?_ | refine rmd ?_ | refine ibo (fun _ => ?_) (fun _ => ?_)) <;> conv => whnf))
  exact rfl
def pl_vl2 : List (Nat × Plan) := []
def G_vl2 : List FuncId := [48]
theorem cok_vl2 : codeOk Try.prog G_vl2 pl_vl2 (Try.f53.body.getD .skip) = true := by kernel_rfl
theorem run_vl2 (vs : Array Value) (w : World) : (callFunc 53 vs).run C1.P w = .ok (.enter 53 vs) w := by kernel_rfl
theorem list2_pure (G : Gr) (hG : G.Ok) (l : List Int) (v : Int) : Pure C1 53 [.int .i64 v, .ref (dIs l), .ref (dG G)] (fun y => y = .bool (nextP G.edges l v)) := by
  have hll : (l.map dI).length = l.length := List.length_map _
  refine pure_of c1_ok (pl := pl_vl2) (G := G_vl2) Try.func53 rfl Try.ntmps53 run_vl2 cok_vl2 (by simp) ?_
  by_cases h : l = []
  · subst h
    (conv => whnf)
    (repeat' ((first | refine ord_ok (by (conv => whnf); (repeat' ((first | refine call_eq rfl (bes_pure G hG [] v) ?_ | refine ify ?_ | refine ifn ?_ | refine i6 ?_ | refine ati ?_ | refine mst ?_ | refine rmd ?_ | refine ibo (fun _ => ?_) (fun _ => ?_)) <;> conv => whnf)); (all_goals (repeat' (first | exact trivial | exact rfl | refine And.intro ?_ ?_)))) ?_ | refine call_eq rfl (bes_pure G hG [] v) ?_ | refine ify ?_ | refine ifn ?_ | refine i6 ?_ | refine ati ?_ | refine mst ?_ | refine rmd ?_ | refine ibo (fun _ => ?_) (fun _ => ?_)) <;> conv => whnf))
    exact rfl
  · have hl0 : ¬ ((l.map dI).length : Int) = 0 := by rw [hll]; have := List.length_pos_iff.2 h; omega
    (conv => whnf)
    (repeat' ((first | refine ord_ok (by (conv => whnf); (repeat' ((first | refine call_eq rfl (bes_pure G hG l v) ?_ | refine ify ?_ | refine ifn ?_ | refine i6 ?_ | refine ati ?_ | refine mst ?_ | refine rmd ?_ | refine ibo (fun _ => ?_) (fun _ => ?_)) <;> conv => whnf)); (all_goals (repeat' (first | exact trivial | exact rfl | refine And.intro ?_ ?_)))) ?_ | refine call_eq rfl (bes_pure G hG l v) ?_ | refine ify ?_ | refine ifn ?_ | refine i6 ?_ | refine ati ?_ | refine mst ?_ | refine rmd ?_ | refine ibo (fun _ => ?_) (fun _ => ?_)) <;> conv => whnf))
    show Da.plain _ = _
    simp [Da.plain, nextP, h]
def pl_vls : List (Nat × Plan) := [(9, .leaf [1, 0, 0, 0, 1, 6, 3, 3] [1, 2, 3, 0, 4, 5, 6, 7] [0, 0, 0, 6, 14, 30, 63, 127])]
def G_vls : List FuncId := [49, 50, 52]
theorem cok_vls : codeOk Try.prog G_vls pl_vls (Try.f31.body.getD .skip) = true := by kernel_rfl
theorem run_vls (vs : Array Value) (w : World) : (callFunc 31 vs).run C1.P w = .ok (.enter 31 vs) w := by kernel_rfl
set_option maxHeartbeats 4000000 in
theorem list_pure (G : Gr) (hG : G.Ok) (s : List Int) (hs : s.length ≤ 4294967296) : Pure C1 31 [dG G, dIs s] (fun y => y = listY (listV G s)) := by
  have hsl := setOf_len s
  have hcf := containsF_pure (setOf s) 51 [.ref (dG G)] (fun v => !hasV G v) (fun v _ => list1_pure G v)
  have hof := of_mksl s hs
  unfold listV
  generalize setOf s = z at hsl hcf hof
  refine pure_of c1_ok (pl := pl_vls) (G := G_vls) Try.func31 rfl Try.ntmps31 run_vls cok_vls (by simp) ?_
  (conv => whnf)
  (repeat' ((first | refine ord_ok (by (conv => whnf); (repeat' ((first | refine call_eq rfl (len_pure G) ?_ | refine ify ?_ | refine ifn ?_ | refine i6 ?_ | refine ati ?_ | refine mst ?_ | refine rmd ?_ | refine ibo (fun _ => ?_) (fun _ => ?_)) <;> conv => whnf)); (all_goals (repeat' (first | exact trivial | exact rfl | refine And.intro ?_ ?_)))) ?_ | refine call_eq rfl (len_pure G) ?_ | refine ify ?_ | refine ifn ?_ | refine i6 ?_ | refine ati ?_ | refine mst ?_ | refine rmd ?_ | refine ibo (fun _ => ?_) (fun _ => ?_)) <;> conv => whnf))
  refine call_mksl 300 rfl rfl hof ?_; rintro ds rfl
  cases hz : z.any (fun v => !hasV G v) with
  | true =>
    rw [hz] at hcf
    rw [if_pos rfl]
    (conv => whnf)
    (repeat' ((first | refine ord_ok (by (conv => whnf); (repeat' ((first | refine call_eqb tab rfl hcf rfl ?_ | refine ify ?_ | refine ifn ?_ | refine i6 ?_ | refine ati ?_ | refine mst ?_ | refine rmd ?_ | refine ibo (fun _ => ?_) (fun _ => ?_)) <;> conv => whnf)); (all_goals (repeat' (first | exact trivial | exact rfl | refine And.intro ?_ ?_)))) ?_ | refine call_eqb tab rfl hcf rfl ?_ | refine ify ?_ | refine ifn ?_ | refine i6 ?_ | refine ati ?_ | refine mst ?_ | refine rmd ?_ | refine ibo (fun _ => ?_) (fun _ => ?_)) <;> conv => whnf))
    exact rfl
  | false =>
    rw [hz] at hcf
    simp only [Bool.false_eq_true, if_false]
    (conv => whnf)
    (repeat' ((first | refine ord_ok (by (conv => whnf); (repeat' ((first | refine call_eqb tab rfl hcf rfl ?_ | refine ify ?_ | refine ifn ?_ | refine i6 ?_ | refine ati ?_ | refine mst ?_ | refine rmd ?_ | refine ibo (fun _ => ?_) (fun _ => ?_)) <;> conv => whnf)); (all_goals (repeat' (first | exact trivial | exact rfl | refine And.intro ?_ ?_)))) ?_ | refine call_eqb tab rfl hcf rfl ?_ | refine ify ?_ | refine ifn ?_ | refine i6 ?_ | refine ati ?_ | refine mst ?_ | refine rmd ?_ | refine ibo (fun _ => ?_) (fun _ => ?_)) <;> conv => whnf))
    refine loop_lo (ι := List Int × List Int) (fun x => listR G.edges x.2.length x.1 x.2 = listR G.edges z.length [] z ∧ x.1.length + x.2.length = z.length)
      (fun x => [(7, .own 7), (6, .own 300), (2, .own 2)])
      (fun x => [(2, .cells 25 [.d (dG G)]), (7, .cells 22 [.own 301]), (300, .slice 3 1 (x.2.map dI)), (301, .slice 3 1 (x.1.map dI))])
      (fun x => x.2.length) ([], z) (fun _ => rfl) ⟨rfl, by simp⟩ (.ownc 7 301 3 1 rfl rfl (.here _) (.refl _ _)) ⟨rfl, rfl, rfl, trivial⟩ ⟨rfl, rfl, rfl, rfl, trivial⟩ ?_
    rintro ⟨l, left⟩ ⟨hR, hlen⟩
    dsimp only at hR hlen
    rw [← hR]
    have hll : (l.map dI).length = l.length := List.length_map _
    have hfl : (left.map dI).length = left.length := List.length_map _
    refine sxCode_sound c1_ok (G := G_vls) (pl := pl_vls) _ _ _ _ (by kernel_rfl) ?_
    cases left with
    | nil =>
      have h0 : ¬ (0 < ((List.map dI ((l, []) : List Int × List Int).snd).length : Int)) := by simp
      ((conv => whnf); repeat' ((first | refine odw ?_ | refine ify ?_ | refine ifn ?_ | refine i6 ?_ | refine ati ?_ | refine mst ?_ | refine rmd ?_ | refine ibo (fun _ => ?_) (fun _ => ?_)) <;> conv => whnf))
      exact rfl
    | cons x0 rest =>
      have hif := indexF_pure (x0 :: rest) 53 [.ref (dIs l), .ref (dG G)] (nextP G.edges l) (fun v _ => list2_pure G hG l v)
      have hpos : 0 < (x0 :: rest).length := by simp
      generalize x0 :: rest = left at *
      obtain ⟨n, hn⟩ : ∃ n, left.length = n + 1 := ⟨left.length - 1, by omega⟩
      rw [hn] at hR ⊢
      simp only [listR] at hR ⊢
      unfold idxF at hif
      cases hfi : left.findIdx? (nextP G.edges l) with
      | none =>
        rw [hfi] at hif
        simp only [optI] at hif
        (conv => whnf)
        (repeat' ((first | refine ord_ok (by (conv => whnf); (repeat' ((first | refine call_eqb tab rfl hif rfl ?_ | refine ify ?_ | refine ifn ?_ | refine i6 ?_ | refine ati ?_ | refine mst ?_ | refine rmd ?_ | refine ibo (fun _ => ?_) (fun _ => ?_)) <;> conv => whnf)); (all_goals (repeat' (first | exact trivial | exact rfl | refine And.intro ?_ ?_)))) ?_ | refine call_eqb tab rfl hif rfl ?_ | refine ify ?_ | refine ifn ?_ | refine i6 ?_ | refine ati ?_ | refine mst ?_ | refine rmd ?_ | refine ibo (fun _ => ?_) (fun _ => ?_)) <;> conv => whnf))
        exact rfl
      | some i =>
        rw [hfi] at hif hR
        simp only [optI] at hif hR
        have hil : i < left.length := by
          rw [List.findIdx?_eq_some_iff_getElem] at hfi
          exact hfi.1
        have hx := List.getElem?_eq_getElem hil
        generalize left[i] = x at hx
        have hxd : (left.map dI)[i]? = some (.int .i64 x) := by rw [List.getElem?_map, hx]; rfl
        rw [hx] at hR
        simp only [Option.getD_some] at hR
        have hel : (left.eraseIdx i).length = n := by rw [List.length_eraseIdx, if_pos hil]; omega
        have hde := delete_eat left i hil
        (conv => whnf)
        (repeat' ((first | refine ord_ok (by (conv => whnf); (repeat' ((first | refine call_eqb tab rfl hif rfl ?_ | refine el_at (i := i) rfl (by omega) ?_ | refine el_is hxd ?_ | refine ify ?_ | refine ifn ?_ | refine i6 ?_ | refine ati ?_ | refine mst ?_ | refine rmd ?_ | refine ibo (fun _ => ?_) (fun _ => ?_)) <;> conv => whnf)); (all_goals (repeat' (first | exact trivial | exact rfl | refine And.intro ?_ ?_)))) ?_ | refine call_eqb tab rfl hif rfl ?_ | refine el_at (i := i) rfl (by omega) ?_ | refine el_is hxd ?_ | refine ify ?_ | refine ifn ?_ | refine i6 ?_ | refine ati ?_ | refine mst ?_ | refine rmd ?_ | refine ibo (fun _ => ?_) (fun _ => ?_)) <;> conv => whnf))
        refine call_eat rfl rfl hde ?_; rintro ds rfl
        ((conv => whnf); repeat' ((first | refine odw ?_ | refine ify ?_ | refine ifn ?_ | refine i6 ?_ | refine ati ?_ | refine mst ?_ | refine rmd ?_ | refine ibo (fun _ => ?_) (fun _ => ?_)) <;> conv => whnf))
        have hfin : l.map dI ++ [.int .i64 x] = (l ++ [x]).map dI := by rw [List.map_append]; rfl
        refine ⟨(l ++ [x], left.eraseIdx i), _, _, ⟨?_, ?_⟩, .refl _ _, ⟨rfl, rfl, rfl, trivial⟩, ⟨rfl, rfl, rfl, slice_is hfin, trivial⟩, by dsimp only; omega⟩
        · dsimp only; rw [hel, hx]; rfl
        · dsimp only; rw [List.length_append, hel]; simp; omega
end Go.Proofs.Ytfkkfaociofkjaa
