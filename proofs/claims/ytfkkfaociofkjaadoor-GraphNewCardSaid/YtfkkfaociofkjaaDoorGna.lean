/- GraphNew: the walk. -/
import Derived.Test.YtfkkfaociofkjaaDoorGla
import Derived.Test.YtfkkfaociofkjaaDoorGrs
import Derived.Test.YtfkkfaociofkjaaDoorLna
import Derived.Test.YtfkkfaociofkjaaDoorRfb
import Derived.Test.YtfkkfaociofkjaaDoorSmi
namespace Go.Gr
theorem newErr_pos {labels : List Int} {edges : List Edg} {c a : Int} {b : Bool} (h : newErr labels edges = some (c, a, b)) : c ≠ 0 := by
  unfold newErr at h
  split at h
  · cases h; decide
  · split at h
    · cases h; decide
    · split at h
      · rename_i i hi
        have := List.find?_some hi
        simp only [decide_eq_true_eq] at this
        cases h; exact this
      · cases h
theorem atD_step {E : List Edg} {k v : Nat} {e : Edg} (h : E[k]? = some e) : atD (E.take (k + 1)) v = atD (E.take k) v ++ (if e.a = v ∨ e.b = v then [(k : Int)] else []) := by
  have hk := (List.getElem?_eq_some_iff.1 h).1
  unfold atD
  rw [List.take_add_one, h, Option.toList_some, List.zipIdx_append, List.filter_append, List.map_append]
  congr 1
  have hl : (E.take k).length = k := by rw [List.length_take]; omega
  by_cases he : e.a = v ∨ e.b = v <;> simp [he, hl]
theorem atD_most (E : List Edg) (v : Nat) : (atD E v).length ≤ E.length := by
  unfold atD
  have := List.length_filter_le (fun p : Edg × Nat => decide (p.1.a = (v : Int) ∨ p.1.b = (v : Int))) E.zipIdx
  rw [List.length_zipIdx] at this
  rw [List.length_map]; exact this
theorem idE_idV {E : List Edg} (h : Strict E) (e : Edg) : idE E e = idV E e := by
  by_cases he : e ∈ E
  · obtain ⟨m, hm⟩ := List.mem_iff_getElem?.1 he
    rw [idE_nodup h.nodup hm, idV_mem h hm]
  · rw [idE_none he, idV_not he]
theorem out_edge {G : Gr} (h : G.Ok) {v : Int} (hv : ¬ (0 ≤ v ∧ v < G.labels.length)) (u : Int) : turn ⟨v, u⟩ ∉ G.edges := by
  intro hm
  have := h.edge _ hm
  simp only [turn] at this
  omega
end Go.Gr
namespace Go.Proofs.YtfkkfaociofkjaaDoor
open Go.Sx Go.RowKit Go.Reg Go.Gr

set_option maxRecDepth 100000
def pl_gnew : List (Nat × Plan) := [(21, .leaf [0, 0, 2, 0, 0, 0, 1, 0, 0, 0, 0, 2, 0, 0, 0, 0, 0, 0, 0, 2, 0, 2, 0, 0, 0, 0, 0, 2, 0, 2, 0, 0] [0, 1, 3, 4, 5, 6, 2, 7, 8, 9, 10, 12, 13, 11, 14, 15, 16, 17, 18, 20, 19, 21, 22, 23, 24, 25, 26, 28, 27, 29, 30, 31] [0, 0, 3, 0, 0, 24, 56, 127, 255, 511, 511, 2047, 511, 4607, 16383, 32767, 65535, 131071, 131071, 524287, 131071, 2097151, 4194303, 8388607, 16777215, 33554431, 33554431, 134217727, 33554431, 536870911, 1073741823, 2147483647]),
  (26, .leaf [0, 0, 0, 2, 1, 0, 0, 2, 0, 0, 0, 0, 0, 2, 1, 0, 0, 2, 0, 0, 0] [0, 1, 2, 5, 6, 4, 3, 7, 8, 9, 10, 11, 12, 15, 16, 14, 13, 17, 18, 19, 20] [0, 0, 0, 7, 0, 0, 0, 127, 255, 511, 1023, 1023, 1023, 8191, 1023, 1023, 1023, 131071, 262143, 524287, 1048575]),
  (32, .leaf [0, 0, 0, 1, 0, 1, 0, 0, 1, 3, 0] [0, 1, 2, 4, 6, 3, 5, 7, 8, 9, 10] [0, 1, 3, 7, 7, 23, 7, 119, 247, 511, 1023])]
def G_gnew : List FuncId := [18, 26, 19, 16, 15, 22, 27, 23, 11, 12]
theorem cok_gnew : codeOk Tryd.prog G_gnew pl_gnew (Tryd.f6.body.getD .skip) = true := by kernel_rfl
theorem run_gnew (vs : Array Value) (w : World) : (callFunc 6 vs).run C1.P w = .ok (.enter 6 vs) w := by kernel_rfl
set_option maxHeartbeats 4000000 in
theorem gnew_pure (labels : List Int) (edges : List Edg) (v id : Int) : Pure C1 6 [dIs labels, dEs edges, .int .i64 v, .int .i64 id] (fun y => y = .bool true) := by
  have hlm : (labels.map dI).length = labels.length := List.length_map _
  have hem : (edges.map dE).length = edges.length := List.length_map _
  refine pure_of c1_ok (pl := pl_gnew) (G := G_gnew) Tryd.func6 rfl Tryd.ntmps6 run_gnew cok_gnew (by simp) ?_
  ((conv => whnf); repeat' ((first | refine odw ?_ | refine ify ?_ | refine ifn ?_ | refine i6 ?_ | refine ati ?_ | refine mst ?_ | refine rmd ?_ | refine ibo (fun _ => ?_) (fun _ => ?_)) <;> conv => whnf))
  refine call_eq rfl galive_pure ?_
  by_cases hl40 : 40 < labels.length
  · ((conv => whnf); repeat' ((first | refine odw ?_ | refine ify ?_ | refine ifn ?_ | refine i6 ?_ | refine ati ?_ | refine mst ?_ | refine rmd ?_ | refine ibo (fun _ => ?_) (fun _ => ?_)) <;> conv => whnf))
    exact rfl
  by_cases he60 : 60 < edges.length
  · ((conv => whnf); repeat' ((first | refine odw ?_ | refine ify ?_ | refine ifn ?_ | refine i6 ?_ | refine ati ?_ | refine mst ?_ | refine rmd ?_ | refine ibo (fun _ => ?_) (fun _ => ?_)) <;> conv => whnf))
    exact rfl
  have hof := lawof_pure edges (by omega)
  have hnew := new_pure labels edges
  have hrn := rnew_pure labels edges
  cases herr : newErr labels edges with
  | some x =>
    obtain ⟨c, a, b⟩ := x
    rw [newY_some herr] at hnew
    rw [rnewY_some herr] at hrn
    have hc := newErr_pos herr
    cases b with
    | true =>
      have hco := code_dS edgeS c a edgeS
      have hat := at_dS edgeS c a edgeS
      (conv => whnf)
      (repeat' ((first | refine ord_ok (by (conv => whnf); (repeat' ((first | refine call_eq rfl hof ?_ | refine call_eq rfl hnew ?_ | refine call_eq rfl hrn ?_ | refine call_eq rfl hco ?_ | refine call_eq rfl hat ?_ | refine ify ?_ | refine ifn ?_ | refine i6 ?_ | refine ati ?_ | refine mst ?_ | refine rmd ?_ | refine ibo (fun _ => ?_) (fun _ => ?_)) <;> conv => whnf)); (all_goals (repeat' (first | exact trivial | exact rfl | refine And.intro ?_ ?_)))) ?_ | refine call_eq rfl hof ?_ | refine call_eq rfl hnew ?_ | refine call_eq rfl hrn ?_ | refine call_eq rfl hco ?_ | refine call_eq rfl hat ?_ | refine ify ?_ | refine ifn ?_ | refine i6 ?_ | refine ati ?_ | refine mst ?_ | refine rmd ?_ | refine ibo (fun _ => ?_) (fun _ => ?_)) <;> conv => whnf))
      show Da.plain (.prop _ _) = _
      simp [Da.plain]
    | false =>
      have hco := code_pure c a (if c = 6 then graphS else labelS)
      have hat := at_dF c a (if c = 6 then graphS else labelS)
      (conv => whnf)
      (repeat' ((first | refine ord_ok (by (conv => whnf); (repeat' ((first | refine call_eq rfl hof ?_ | refine call_eq rfl hnew ?_ | refine call_eq rfl hrn ?_ | refine call_eq rfl hco ?_ | refine call_eq rfl hat ?_ | refine ify ?_ | refine ifn ?_ | refine i6 ?_ | refine ati ?_ | refine mst ?_ | refine rmd ?_ | refine ibo (fun _ => ?_) (fun _ => ?_)) <;> conv => whnf)); (all_goals (repeat' (first | exact trivial | exact rfl | refine And.intro ?_ ?_)))) ?_ | refine call_eq rfl hof ?_ | refine call_eq rfl hnew ?_ | refine call_eq rfl hrn ?_ | refine call_eq rfl hco ?_ | refine call_eq rfl hat ?_ | refine ify ?_ | refine ifn ?_ | refine i6 ?_ | refine ati ?_ | refine mst ?_ | refine rmd ?_ | refine ibo (fun _ => ?_) (fun _ => ?_)) <;> conv => whnf))
      show Da.plain (.prop _ _) = _
      simp [Da.plain]
  | none =>
    rw [newY_none herr] at hnew
    rw [rnewY_none herr] at hrn
    have hG := canon_ok herr
    have hcl := canon_len edges
    generalize hE : canon edges = E at hnew hrn hG hcl
    have hEm : (E.map dE).length = E.length := List.length_map _
    have hlen := len_pure ⟨labels, E⟩
    have hsize := size_pure ⟨labels, E⟩
    simp only at hlen hsize
    (conv => whnf)
    (repeat' ((first | refine ord_ok (by (conv => whnf); (repeat' ((first | refine call_eq rfl hof ?_ | refine call_eq rfl hnew ?_ | refine call_eq rfl hrn ?_ | refine call_eq rfl hlen ?_ | refine call_eq rfl hsize ?_ | refine ify ?_ | refine ifn ?_ | refine i6 ?_ | refine ati ?_ | refine mst ?_ | refine rmd ?_ | refine ibo (fun _ => ?_) (fun _ => ?_)) <;> conv => whnf)); (all_goals (repeat' (first | exact trivial | exact rfl | refine And.intro ?_ ?_)))) ?_ | refine call_eq rfl hof ?_ | refine call_eq rfl hnew ?_ | refine call_eq rfl hrn ?_ | refine call_eq rfl hlen ?_ | refine call_eq rfl hsize ?_ | refine ify ?_ | refine ifn ?_ | refine i6 ?_ | refine ati ?_ | refine mst ?_ | refine rmd ?_ | refine ibo (fun _ => ?_) (fun _ => ?_)) <;> conv => whnf))
    refine loop_lo (ι := Nat) (fun u => u ≤ labels.length) (fun u => [(14, .d (.int .i64 u)), (11, .own 11), (9, .d (dG ⟨labels, E⟩)), (3, .d (.int .i64 id)), (2, .d (.int .i64 v)), (1, .d (dEs edges)), (0, .d (dIs labels))]) (fun u => [(11, .cells 38 [.d (dIs labels), .d (dEs E)])])
      (fun u => labels.length - u) 0 (fun _ => rfl) (Nat.zero_le _) (.refl _ _) ⟨rfl, rfl, rfl, rfl, rfl, rfl, rfl, trivial⟩ ⟨rfl, trivial⟩ ?_
    intro u hu
    refine sxCode_sound c1_ok (G := G_gnew) (pl := pl_gnew) _ _ _ _ (by kernel_rfl) ?_
    by_cases hul : u < labels.length
    · have hny : nearY ⟨labels, E⟩ (u : Int) = dIs (nearD E labels.length u) := by
        unfold nearY; rw [if_pos (show 0 ≤ (u : Int) ∧ (u : Int) < labels.length by omega), Int.toNat_natCast]
        exact congrArg dIs (near_doc hG u)
      have hnp := near_pure ⟨labels, E⟩ hG u
      rw [hny] at hnp
      have hrnr := rnear_pure labels E u (by omega)
      have hdg := degree_pure ⟨labels, E⟩ hG u
      have hdv : degV ⟨labels, E⟩ (u : Int) = (nearD E labels.length u).length := by
        unfold degV; rw [if_pos (show 0 ≤ (u : Int) ∧ (u : Int) < labels.length by omega), Int.toNat_natCast]
        exact congrArg List.length (near_doc hG u)
      rw [hdv] at hdg
      have hLb := nearD_len E labels.length u
      generalize nearD E labels.length u = L at hnp hrnr hdg hLb
      have hLl : (L.map dI).length = L.length := List.length_map _
      have hay : atY ⟨labels, E⟩ (u : Int) = dIs (atD E u) := by
        unfold atY; rw [if_pos (show 0 ≤ (u : Int) ∧ (u : Int) < labels.length by omega), Int.toNat_natCast]
      have hap := at_pure ⟨labels, E⟩ hG u
      rw [hay] at hap
      have hlx := List.getElem?_eq_getElem hul
      have hlab := label_pure ⟨labels, E⟩ u
      have hlv : labelV ⟨labels, E⟩ (u : Int) = labels[u] := by
        unfold labelV; rw [if_pos (show 0 ≤ (u : Int) ∧ (u : Int) < labels.length by omega), Int.toNat_natCast, hlx]; rfl
      rw [hlv] at hlab
      generalize labels[u] = lb at hlx hlab
      have hlxd : (labels.map dI)[u]? = some (.int .i64 lb) := by rw [List.getElem?_map, hlx]; rfl
      (conv => whnf)
      (repeat' ((first | refine ord_ok (by (conv => whnf); (repeat' ((first | refine call_eq rfl hrnr ?_ | refine ify ?_ | refine ifn ?_ | refine i6 ?_ | refine ati ?_ | refine mst ?_ | refine rmd ?_ | refine ibo (fun _ => ?_) (fun _ => ?_)) <;> conv => whnf)); (all_goals (repeat' (first | exact trivial | exact rfl | refine And.intro ?_ ?_)))) ?_ | refine call_eq rfl hrnr ?_ | refine ify ?_ | refine ifn ?_ | refine i6 ?_ | refine ati ?_ | refine mst ?_ | refine rmd ?_ | refine ibo (fun _ => ?_) (fun _ => ?_)) <;> conv => whnf))
      refine loop_lo (ι := Nat) (fun i => i ≤ E.length) (fun i => [(17, .d (.int .i64 i)), (16, .own 300), (15, .d (dIs L)), (14, .d (.int .i64 u)), (11, .own 11), (9, .d (dG ⟨labels, E⟩)), (3, .d (.int .i64 id)), (2, .d (.int .i64 v)), (1, .d (dEs edges)), (0, .d (dIs labels))]) (fun i => [(11, .cells 38 [.d (dIs labels), .d (dEs E)]), (300, .slice 3 1 ((atD (E.take i) u).map dI))])
        (fun i => E.length - i) 0 (fun _ => rfl) (Nat.zero_le _) (.own 16 300 3 1 rfl rfl (.refl _ _)) ⟨rfl, rfl, rfl, rfl, rfl, rfl, rfl, rfl, rfl, rfl, trivial⟩ ⟨rfl, rfl, trivial⟩ ?_
      intro i hi
      refine sxCode_sound c1_ok (G := G_gnew) (pl := pl_gnew) _ _ _ _ (by kernel_rfl) ?_
      by_cases hil : i < E.length
      · have hx := List.getElem?_eq_getElem hil
        have hst := fun v => atD_step (v := v) hx
        have hst := hst u
        have hal := atD_most (E.take i) u
        rw [List.length_take] at hal
        generalize E[i] = x at hx hst
        have hxd : (E.map dE)[i]? = some (dE x) := by rw [List.getElem?_map, hx]; rfl
        by_cases hxa : x.a = u
        · rw [if_pos (.inl hxa)] at hst
          have hfin : (atD (E.take i) u).map dI ++ [.int .i64 (i : Int)] = (atD (E.take (i + 1)) u).map dI := by rw [hst, List.map_append]; rfl
          (conv => whnf)
          (repeat' ((first | refine ord_ok (by (conv => whnf); (repeat' ((first | refine at_da hxd rfl ?_ | refine ify ?_ | refine ifn ?_ | refine i6 ?_ | refine ati ?_ | refine mst ?_ | refine rmd ?_ | refine ibo (fun _ => ?_) (fun _ => ?_)) <;> conv => whnf)); (all_goals (repeat' (first | exact trivial | exact rfl | refine And.intro ?_ ?_)))) ?_ | refine at_da hxd rfl ?_ | refine ify ?_ | refine ifn ?_ | refine i6 ?_ | refine ati ?_ | refine mst ?_ | refine rmd ?_ | refine ibo (fun _ => ?_) (fun _ => ?_)) <;> conv => whnf))
          exact ⟨i + 1, _, _, hil, .refl _ _, ⟨rfl, rfl, rfl, rfl, rfl, rfl, rfl, rfl, rfl, rfl, trivial⟩, ⟨rfl, slice_is hfin, trivial⟩, by omega⟩
        · by_cases hxb : x.b = u
          · rw [if_pos (.inr hxb)] at hst
            have hfin : (atD (E.take i) u).map dI ++ [.int .i64 (i : Int)] = (atD (E.take (i + 1)) u).map dI := by rw [hst, List.map_append]; rfl
            (conv => whnf)
            (repeat' ((first | refine ord_ok (by (conv => whnf); (repeat' ((first | refine at_da hxd rfl ?_ | refine ify ?_ | refine ifn ?_ | refine i6 ?_ | refine ati ?_ | refine mst ?_ | refine rmd ?_ | refine ibo (fun _ => ?_) (fun _ => ?_)) <;> conv => whnf)); (all_goals (repeat' (first | exact trivial | exact rfl | refine And.intro ?_ ?_)))) ?_ | refine at_da hxd rfl ?_ | refine ify ?_ | refine ifn ?_ | refine i6 ?_ | refine ati ?_ | refine mst ?_ | refine rmd ?_ | refine ibo (fun _ => ?_) (fun _ => ?_)) <;> conv => whnf))
            exact ⟨i + 1, _, _, hil, .refl _ _, ⟨rfl, rfl, rfl, rfl, rfl, rfl, rfl, rfl, rfl, rfl, trivial⟩, ⟨rfl, slice_is hfin, trivial⟩, by omega⟩
          · rw [if_neg (fun h => h.elim hxa hxb), List.append_nil] at hst
            (conv => whnf)
            (repeat' ((first | refine ord_ok (by (conv => whnf); (repeat' ((first | refine at_da hxd rfl ?_ | refine ify ?_ | refine ifn ?_ | refine i6 ?_ | refine ati ?_ | refine mst ?_ | refine rmd ?_ | refine ibo (fun _ => ?_) (fun _ => ?_)) <;> conv => whnf)); (all_goals (repeat' (first | exact trivial | exact rfl | refine And.intro ?_ ?_)))) ?_ | refine at_da hxd rfl ?_ | refine ify ?_ | refine ifn ?_ | refine i6 ?_ | refine ati ?_ | refine mst ?_ | refine rmd ?_ | refine ibo (fun _ => ?_) (fun _ => ?_)) <;> conv => whnf))
            exact ⟨i + 1, _, _, hil, .refl _ _, ⟨rfl, rfl, rfl, rfl, rfl, rfl, rfl, rfl, rfl, rfl, trivial⟩, ⟨rfl, slice_is (by rw [hst]), trivial⟩, by omega⟩
      · have hiE : E.take i = E := List.take_of_length_le (by omega)
        rw [hiE]
        have hsL := same_yes L
        have hsA := same_yes (atD E u)
        (conv => whnf)
        (repeat' ((first | refine ord_ok (by (conv => whnf); (repeat' ((first | refine call_eq rfl hlab ?_ | refine at_da hlxd rfl ?_ | refine call_eq rfl hdg ?_ | refine call_eq rfl hnp ?_ | refine call_eq rfl hsL ?_ | refine call_eq rfl hap ?_ | refine call_eqb tab rfl hsA rfl ?_ | refine ify ?_ | refine ifn ?_ | refine i6 ?_ | refine ati ?_ | refine mst ?_ | refine rmd ?_ | refine ibo (fun _ => ?_) (fun _ => ?_)) <;> conv => whnf)); (all_goals (repeat' (first | exact trivial | exact rfl | refine And.intro ?_ ?_)))) ?_ | refine call_eq rfl hlab ?_ | refine at_da hlxd rfl ?_ | refine call_eq rfl hdg ?_ | refine call_eq rfl hnp ?_ | refine call_eq rfl hsL ?_ | refine call_eq rfl hap ?_ | refine call_eqb tab rfl hsA rfl ?_ | refine ify ?_ | refine ifn ?_ | refine i6 ?_ | refine ati ?_ | refine mst ?_ | refine rmd ?_ | refine ibo (fun _ => ?_) (fun _ => ?_)) <;> conv => whnf))
        refine loop_lo (ι := Nat) (fun w => w ≤ labels.length) (fun w => [(18, .d (.int .i64 w)), (14, .d (.int .i64 u)), (11, .own 11), (9, .d (dG ⟨labels, E⟩)), (3, .d (.int .i64 id)), (2, .d (.int .i64 v)), (1, .d (dEs edges)), (0, .d (dIs labels))]) (fun w => [(11, .cells 38 [.d (dIs labels), .d (dEs E)])])
          (fun w => labels.length - w) 0 (fun _ => rfl) (Nat.zero_le _) (.refl _ _) ⟨rfl, rfl, rfl, rfl, rfl, rfl, rfl, rfl, trivial⟩ ⟨rfl, trivial⟩ ?_
        intro w hw
        refine sxCode_sound c1_ok (G := G_gnew) (pl := pl_gnew) _ _ _ _ (by kernel_rfl) ?_
        by_cases hwl : w < labels.length
        · have hid := id_pure ⟨labels, E⟩ hG u w
          have hri := rid_pure labels E u w
          have hha := hasE_pure ⟨labels, E⟩ hG u w
          rw [idE_idV hG.sorted] at hri
          simp only at hid hri hha
          by_cases hmem : turn ⟨(u : Int), (w : Int)⟩ ∈ E
          · rw [decide_eq_true hmem] at hha
            have hnn := idV_nn.2 hmem
            generalize idV E (turn ⟨(u : Int), (w : Int)⟩) = q at hid hri hnn
            have hif : ¬ ¬ (true = true ↔ 0 ≤ q) := fun h => h ⟨fun _ => hnn, fun _ => rfl⟩
            (conv => whnf)
            (repeat' ((first | refine ord_ok (by (conv => whnf); (repeat' ((first | refine call_eq rfl hid ?_ | refine call_eq rfl hri ?_ | refine call_eq rfl hha ?_ | refine ify ?_ | refine ifn ?_ | refine i6 ?_ | refine ati ?_ | refine mst ?_ | refine rmd ?_ | refine ibo (fun _ => ?_) (fun _ => ?_)) <;> conv => whnf)); (all_goals (repeat' (first | exact trivial | exact rfl | refine And.intro ?_ ?_)))) ?_ | refine call_eq rfl hid ?_ | refine call_eq rfl hri ?_ | refine call_eq rfl hha ?_ | refine ify ?_ | refine ifn ?_ | refine i6 ?_ | refine ati ?_ | refine mst ?_ | refine rmd ?_ | refine ibo (fun _ => ?_) (fun _ => ?_)) <;> conv => whnf))
            exact ⟨w + 1, _, _, hwl, .refl _ _, ⟨rfl, rfl, rfl, rfl, rfl, rfl, rfl, rfl, trivial⟩, ⟨rfl, trivial⟩, by omega⟩
          · rw [decide_eq_false hmem] at hha
            have hnn : ¬ 0 ≤ idV E (turn ⟨(u : Int), (w : Int)⟩) := fun h => hmem (idV_nn.1 h)
            generalize idV E (turn ⟨(u : Int), (w : Int)⟩) = q at hid hri hnn
            have hif : ¬ ¬ (false = true ↔ 0 ≤ q) := fun h => h ⟨fun h => (by cases h), fun h => absurd h hnn⟩
            (conv => whnf)
            (repeat' ((first | refine ord_ok (by (conv => whnf); (repeat' ((first | refine call_eq rfl hid ?_ | refine call_eq rfl hri ?_ | refine call_eq rfl hha ?_ | refine ify ?_ | refine ifn ?_ | refine i6 ?_ | refine ati ?_ | refine mst ?_ | refine rmd ?_ | refine ibo (fun _ => ?_) (fun _ => ?_)) <;> conv => whnf)); (all_goals (repeat' (first | exact trivial | exact rfl | refine And.intro ?_ ?_)))) ?_ | refine call_eq rfl hid ?_ | refine call_eq rfl hri ?_ | refine call_eq rfl hha ?_ | refine ify ?_ | refine ifn ?_ | refine i6 ?_ | refine ati ?_ | refine mst ?_ | refine rmd ?_ | refine ibo (fun _ => ?_) (fun _ => ?_)) <;> conv => whnf))
            exact ⟨w + 1, _, _, hwl, .refl _ _, ⟨rfl, rfl, rfl, rfl, rfl, rfl, rfl, rfl, trivial⟩, ⟨rfl, trivial⟩, by omega⟩
        · ((conv => whnf); repeat' ((first | refine odw ?_ | refine ify ?_ | refine ifn ?_ | refine i6 ?_ | refine ati ?_ | refine mst ?_ | refine rmd ?_ | refine ibo (fun _ => ?_) (fun _ => ?_)) <;> conv => whnf))
          exact ⟨u + 1, _, _, hul, .refl _ _, ⟨rfl, rfl, rfl, rfl, rfl, rfl, rfl, trivial⟩, ⟨rfl, trivial⟩, by omega⟩
    · ((conv => whnf); repeat' ((first | refine odw ?_ | refine ify ?_ | refine ifn ?_ | refine i6 ?_ | refine ati ?_ | refine mst ?_ | refine rmd ?_ | refine ibo (fun _ => ?_) (fun _ => ?_)) <;> conv => whnf))
      refine loop_lo (ι := Nat) (fun i => i ≤ E.length) (fun i => [(19, .d (.int .i64 i)), (11, .own 11), (9, .d (dG ⟨labels, E⟩)), (3, .d (.int .i64 id)), (2, .d (.int .i64 v)), (1, .d (dEs edges)), (0, .d (dIs labels))]) (fun i => [(11, .cells 38 [.d (dIs labels), .d (dEs E)])])
        (fun i => E.length - i) 0 (fun _ => rfl) (Nat.zero_le _) (.refl _ _) ⟨rfl, rfl, rfl, rfl, rfl, rfl, rfl, trivial⟩ ⟨rfl, trivial⟩ ?_
      intro i hi
      refine sxCode_sound c1_ok (G := G_gnew) (pl := pl_gnew) _ _ _ _ (by kernel_rfl) ?_
      by_cases hil : i < E.length
      · have hx := List.getElem?_eq_getElem hil
        have hed : edgeY E (i : Int) = .tuple [dE E[i], .bool true] := by unfold edgeY; rw [if_pos (by omega), Int.toNat_natCast, hx]; rfl
        have hep := edge_pure ⟨labels, E⟩ i
        generalize E[i] = x at hx hed
        obtain ⟨xa, xb⟩ := x
        have hxd : (E.map dE)[i]? = some (.agg [.int .i64 xa, .int .i64 xb]) := by rw [List.getElem?_map, hx]; rfl
        simp only at hep
        rw [hed, show dE ⟨xa, xb⟩ = .agg [.int .i64 xa, .int .i64 xb] from rfl] at hep
        (conv => whnf)
        (repeat' ((first | refine ord_ok (by (conv => whnf); (repeat' ((first | refine call_eq rfl hep ?_ | refine at_da hxd rfl ?_ | refine ify ?_ | refine ifn ?_ | refine i6 ?_ | refine ati ?_ | refine mst ?_ | refine rmd ?_ | refine ibo (fun _ => ?_) (fun _ => ?_)) <;> conv => whnf)); (all_goals (repeat' (first | exact trivial | exact rfl | refine And.intro ?_ ?_)))) ?_ | refine call_eq rfl hep ?_ | refine at_da hxd rfl ?_ | refine ify ?_ | refine ifn ?_ | refine i6 ?_ | refine ati ?_ | refine mst ?_ | refine rmd ?_ | refine ibo (fun _ => ?_) (fun _ => ?_)) <;> conv => whnf))
        exact ⟨i + 1, _, _, hil, .refl _ _, ⟨rfl, rfl, rfl, rfl, rfl, rfl, rfl, trivial⟩, ⟨rfl, trivial⟩, by omega⟩
      · have hedge := edge_pure ⟨labels, E⟩ id
        simp only at hedge
        have hvl := label_pure ⟨labels, E⟩ v
        have hvn := near_pure ⟨labels, E⟩ hG v
        have hva := at_pure ⟨labels, E⟩ hG v
        have hvd := degree_pure ⟨labels, E⟩ hG v
        have hvi := id_pure ⟨labels, E⟩ hG v 0
        have hvh := hasE_pure ⟨labels, E⟩ hG 0 v
        by_cases hv : 0 ≤ v ∧ v < labels.length
        · have hv1 := hv.1
          have hv2 := hv.2
          by_cases hi0 : 0 ≤ id
          · by_cases hi1 : id < E.length
            · rw [show edgeY E id = .tuple [dE ((E[id.toNat]?).getD ⟨0, 0⟩), .bool true] from if_pos ⟨hi0, hi1⟩] at hedge
              generalize (E[id.toNat]?).getD ⟨0, 0⟩ = x at hedge
              obtain ⟨xa, xb⟩ := x
              have hif : true = true ↔ id < ((edges.map dE).length : Int) := ⟨fun _ => by omega, fun _ => rfl⟩
              (conv => whnf)
              (repeat' ((first | refine ord_ok (by (conv => whnf); (repeat' ((first | refine call_eq rfl hedge ?_ | refine if_yes Iff.rfl ?_ | refine call_eq rfl hvl ?_ | refine call_eq rfl hvn ?_ | refine call_eq rfl hva ?_ | refine call_eq rfl hvd ?_ | refine call_eq rfl hvi ?_ | refine call_eq rfl hvh ?_ | refine ify ?_ | refine ifn ?_ | refine i6 ?_ | refine ati ?_ | refine mst ?_ | refine rmd ?_ | refine ibo (fun _ => ?_) (fun _ => ?_)) <;> conv => whnf)); (all_goals (repeat' (first | exact trivial | exact rfl | refine And.intro ?_ ?_)))) ?_ | refine call_eq rfl hedge ?_ | refine if_yes Iff.rfl ?_ | refine call_eq rfl hvl ?_ | refine call_eq rfl hvn ?_ | refine call_eq rfl hva ?_ | refine call_eq rfl hvd ?_ | refine call_eq rfl hvi ?_ | refine call_eq rfl hvh ?_ | refine ify ?_ | refine ifn ?_ | refine i6 ?_ | refine ati ?_ | refine mst ?_ | refine rmd ?_ | refine ibo (fun _ => ?_) (fun _ => ?_)) <;> conv => whnf))
              exact rfl
            · rw [show edgeY E id = .tuple [dE ⟨0, 0⟩, .bool false] from if_neg (by omega)] at hedge
              have hif : false = true ↔ id < ((edges.map dE).length : Int) := ⟨fun h => (by cases h), fun h => by omega⟩
              (conv => whnf)
              (repeat' ((first | refine ord_ok (by (conv => whnf); (repeat' ((first | refine call_eq rfl hedge ?_ | refine if_yes Iff.rfl ?_ | refine call_eq rfl hvl ?_ | refine call_eq rfl hvn ?_ | refine call_eq rfl hva ?_ | refine call_eq rfl hvd ?_ | refine call_eq rfl hvi ?_ | refine call_eq rfl hvh ?_ | refine ify ?_ | refine ifn ?_ | refine i6 ?_ | refine ati ?_ | refine mst ?_ | refine rmd ?_ | refine ibo (fun _ => ?_) (fun _ => ?_)) <;> conv => whnf)); (all_goals (repeat' (first | exact trivial | exact rfl | refine And.intro ?_ ?_)))) ?_ | refine call_eq rfl hedge ?_ | refine if_yes Iff.rfl ?_ | refine call_eq rfl hvl ?_ | refine call_eq rfl hvn ?_ | refine call_eq rfl hva ?_ | refine call_eq rfl hvd ?_ | refine call_eq rfl hvi ?_ | refine call_eq rfl hvh ?_ | refine ify ?_ | refine ifn ?_ | refine i6 ?_ | refine ati ?_ | refine mst ?_ | refine rmd ?_ | refine ibo (fun _ => ?_) (fun _ => ?_)) <;> conv => whnf))
              exact rfl
          · rw [show edgeY E id = .tuple [dE ⟨0, 0⟩, .bool false] from if_neg (by omega)] at hedge
            (conv => whnf)
            (repeat' ((first | refine ord_ok (by (conv => whnf); (repeat' ((first | refine call_eq rfl hedge ?_ | refine if_yes Iff.rfl ?_ | refine call_eq rfl hvl ?_ | refine call_eq rfl hvn ?_ | refine call_eq rfl hva ?_ | refine call_eq rfl hvd ?_ | refine call_eq rfl hvi ?_ | refine call_eq rfl hvh ?_ | refine ify ?_ | refine ifn ?_ | refine i6 ?_ | refine ati ?_ | refine mst ?_ | refine rmd ?_ | refine ibo (fun _ => ?_) (fun _ => ?_)) <;> conv => whnf)); (all_goals (repeat' (first | exact trivial | exact rfl | refine And.intro ?_ ?_)))) ?_ | refine call_eq rfl hedge ?_ | refine if_yes Iff.rfl ?_ | refine call_eq rfl hvl ?_ | refine call_eq rfl hvn ?_ | refine call_eq rfl hva ?_ | refine call_eq rfl hvd ?_ | refine call_eq rfl hvi ?_ | refine call_eq rfl hvh ?_ | refine ify ?_ | refine ifn ?_ | refine i6 ?_ | refine ati ?_ | refine mst ?_ | refine rmd ?_ | refine ibo (fun _ => ?_) (fun _ => ?_)) <;> conv => whnf))
            exact rfl
        · rw [show labelV ⟨labels, E⟩ v = -1 from if_neg hv] at hvl
          rw [show nearY ⟨labels, E⟩ v = .nils from if_neg hv] at hvn
          rw [show atY ⟨labels, E⟩ v = .nils from if_neg hv] at hva
          rw [show degV ⟨labels, E⟩ v = 0 from if_neg hv] at hvd
          rw [idV_not (out_edge hG hv 0)] at hvi
          rw [turn_sym, decide_eq_false (out_edge hG hv 0)] at hvh
          by_cases hv1 : v < 0
          · have hv2 : True := trivial
            by_cases hi0 : 0 ≤ id
            · by_cases hi1 : id < E.length
              · rw [show edgeY E id = .tuple [dE ((E[id.toNat]?).getD ⟨0, 0⟩), .bool true] from if_pos ⟨hi0, hi1⟩] at hedge
                generalize (E[id.toNat]?).getD ⟨0, 0⟩ = x at hedge
                obtain ⟨xa, xb⟩ := x
                have hif : true = true ↔ id < ((edges.map dE).length : Int) := ⟨fun _ => by omega, fun _ => rfl⟩
                (conv => whnf)
                (repeat' ((first | refine ord_ok (by (conv => whnf); (repeat' ((first | refine call_eq rfl hedge ?_ | refine if_yes Iff.rfl ?_ | refine call_eq rfl hvl ?_ | refine call_eq rfl hvn ?_ | refine call_eq rfl hva ?_ | refine call_eq rfl hvd ?_ | refine call_eq rfl hvi ?_ | refine call_eq rfl hvh ?_ | refine ify ?_ | refine ifn ?_ | refine i6 ?_ | refine ati ?_ | refine mst ?_ | refine rmd ?_ | refine ibo (fun _ => ?_) (fun _ => ?_)) <;> conv => whnf)); (all_goals (repeat' (first | exact trivial | exact rfl | refine And.intro ?_ ?_)))) ?_ | refine call_eq rfl hedge ?_ | refine if_yes Iff.rfl ?_ | refine call_eq rfl hvl ?_ | refine call_eq rfl hvn ?_ | refine call_eq rfl hva ?_ | refine call_eq rfl hvd ?_ | refine call_eq rfl hvi ?_ | refine call_eq rfl hvh ?_ | refine ify ?_ | refine ifn ?_ | refine i6 ?_ | refine ati ?_ | refine mst ?_ | refine rmd ?_ | refine ibo (fun _ => ?_) (fun _ => ?_)) <;> conv => whnf))
                exact rfl
              · rw [show edgeY E id = .tuple [dE ⟨0, 0⟩, .bool false] from if_neg (by omega)] at hedge
                have hif : false = true ↔ id < ((edges.map dE).length : Int) := ⟨fun h => (by cases h), fun h => by omega⟩
                (conv => whnf)
                (repeat' ((first | refine ord_ok (by (conv => whnf); (repeat' ((first | refine call_eq rfl hedge ?_ | refine if_yes Iff.rfl ?_ | refine call_eq rfl hvl ?_ | refine call_eq rfl hvn ?_ | refine call_eq rfl hva ?_ | refine call_eq rfl hvd ?_ | refine call_eq rfl hvi ?_ | refine call_eq rfl hvh ?_ | refine ify ?_ | refine ifn ?_ | refine i6 ?_ | refine ati ?_ | refine mst ?_ | refine rmd ?_ | refine ibo (fun _ => ?_) (fun _ => ?_)) <;> conv => whnf)); (all_goals (repeat' (first | exact trivial | exact rfl | refine And.intro ?_ ?_)))) ?_ | refine call_eq rfl hedge ?_ | refine if_yes Iff.rfl ?_ | refine call_eq rfl hvl ?_ | refine call_eq rfl hvn ?_ | refine call_eq rfl hva ?_ | refine call_eq rfl hvd ?_ | refine call_eq rfl hvi ?_ | refine call_eq rfl hvh ?_ | refine ify ?_ | refine ifn ?_ | refine i6 ?_ | refine ati ?_ | refine mst ?_ | refine rmd ?_ | refine ibo (fun _ => ?_) (fun _ => ?_)) <;> conv => whnf))
                exact rfl
            · rw [show edgeY E id = .tuple [dE ⟨0, 0⟩, .bool false] from if_neg (by omega)] at hedge
              (conv => whnf)
              (repeat' ((first | refine ord_ok (by (conv => whnf); (repeat' ((first | refine call_eq rfl hedge ?_ | refine if_yes Iff.rfl ?_ | refine call_eq rfl hvl ?_ | refine call_eq rfl hvn ?_ | refine call_eq rfl hva ?_ | refine call_eq rfl hvd ?_ | refine call_eq rfl hvi ?_ | refine call_eq rfl hvh ?_ | refine ify ?_ | refine ifn ?_ | refine i6 ?_ | refine ati ?_ | refine mst ?_ | refine rmd ?_ | refine ibo (fun _ => ?_) (fun _ => ?_)) <;> conv => whnf)); (all_goals (repeat' (first | exact trivial | exact rfl | refine And.intro ?_ ?_)))) ?_ | refine call_eq rfl hedge ?_ | refine if_yes Iff.rfl ?_ | refine call_eq rfl hvl ?_ | refine call_eq rfl hvn ?_ | refine call_eq rfl hva ?_ | refine call_eq rfl hvd ?_ | refine call_eq rfl hvi ?_ | refine call_eq rfl hvh ?_ | refine ify ?_ | refine ifn ?_ | refine i6 ?_ | refine ati ?_ | refine mst ?_ | refine rmd ?_ | refine ibo (fun _ => ?_) (fun _ => ?_)) <;> conv => whnf))
              exact rfl
          · have hv2 : (labels.length : Int) ≤ v := by omega
            by_cases hi0 : 0 ≤ id
            · by_cases hi1 : id < E.length
              · rw [show edgeY E id = .tuple [dE ((E[id.toNat]?).getD ⟨0, 0⟩), .bool true] from if_pos ⟨hi0, hi1⟩] at hedge
                generalize (E[id.toNat]?).getD ⟨0, 0⟩ = x at hedge
                obtain ⟨xa, xb⟩ := x
                have hif : true = true ↔ id < ((edges.map dE).length : Int) := ⟨fun _ => by omega, fun _ => rfl⟩
                (conv => whnf)
                (repeat' ((first | refine ord_ok (by (conv => whnf); (repeat' ((first | refine call_eq rfl hedge ?_ | refine if_yes Iff.rfl ?_ | refine call_eq rfl hvl ?_ | refine call_eq rfl hvn ?_ | refine call_eq rfl hva ?_ | refine call_eq rfl hvd ?_ | refine call_eq rfl hvi ?_ | refine call_eq rfl hvh ?_ | refine ify ?_ | refine ifn ?_ | refine i6 ?_ | refine ati ?_ | refine mst ?_ | refine rmd ?_ | refine ibo (fun _ => ?_) (fun _ => ?_)) <;> conv => whnf)); (all_goals (repeat' (first | exact trivial | exact rfl | refine And.intro ?_ ?_)))) ?_ | refine call_eq rfl hedge ?_ | refine if_yes Iff.rfl ?_ | refine call_eq rfl hvl ?_ | refine call_eq rfl hvn ?_ | refine call_eq rfl hva ?_ | refine call_eq rfl hvd ?_ | refine call_eq rfl hvi ?_ | refine call_eq rfl hvh ?_ | refine ify ?_ | refine ifn ?_ | refine i6 ?_ | refine ati ?_ | refine mst ?_ | refine rmd ?_ | refine ibo (fun _ => ?_) (fun _ => ?_)) <;> conv => whnf))
                exact rfl
              · rw [show edgeY E id = .tuple [dE ⟨0, 0⟩, .bool false] from if_neg (by omega)] at hedge
                have hif : false = true ↔ id < ((edges.map dE).length : Int) := ⟨fun h => (by cases h), fun h => by omega⟩
                (conv => whnf)
                (repeat' ((first | refine ord_ok (by (conv => whnf); (repeat' ((first | refine call_eq rfl hedge ?_ | refine if_yes Iff.rfl ?_ | refine call_eq rfl hvl ?_ | refine call_eq rfl hvn ?_ | refine call_eq rfl hva ?_ | refine call_eq rfl hvd ?_ | refine call_eq rfl hvi ?_ | refine call_eq rfl hvh ?_ | refine ify ?_ | refine ifn ?_ | refine i6 ?_ | refine ati ?_ | refine mst ?_ | refine rmd ?_ | refine ibo (fun _ => ?_) (fun _ => ?_)) <;> conv => whnf)); (all_goals (repeat' (first | exact trivial | exact rfl | refine And.intro ?_ ?_)))) ?_ | refine call_eq rfl hedge ?_ | refine if_yes Iff.rfl ?_ | refine call_eq rfl hvl ?_ | refine call_eq rfl hvn ?_ | refine call_eq rfl hva ?_ | refine call_eq rfl hvd ?_ | refine call_eq rfl hvi ?_ | refine call_eq rfl hvh ?_ | refine ify ?_ | refine ifn ?_ | refine i6 ?_ | refine ati ?_ | refine mst ?_ | refine rmd ?_ | refine ibo (fun _ => ?_) (fun _ => ?_)) <;> conv => whnf))
                exact rfl
            · rw [show edgeY E id = .tuple [dE ⟨0, 0⟩, .bool false] from if_neg (by omega)] at hedge
              (conv => whnf)
              (repeat' ((first | refine ord_ok (by (conv => whnf); (repeat' ((first | refine call_eq rfl hedge ?_ | refine if_yes Iff.rfl ?_ | refine call_eq rfl hvl ?_ | refine call_eq rfl hvn ?_ | refine call_eq rfl hva ?_ | refine call_eq rfl hvd ?_ | refine call_eq rfl hvi ?_ | refine call_eq rfl hvh ?_ | refine ify ?_ | refine ifn ?_ | refine i6 ?_ | refine ati ?_ | refine mst ?_ | refine rmd ?_ | refine ibo (fun _ => ?_) (fun _ => ?_)) <;> conv => whnf)); (all_goals (repeat' (first | exact trivial | exact rfl | refine And.intro ?_ ?_)))) ?_ | refine call_eq rfl hedge ?_ | refine if_yes Iff.rfl ?_ | refine call_eq rfl hvl ?_ | refine call_eq rfl hvn ?_ | refine call_eq rfl hva ?_ | refine call_eq rfl hvd ?_ | refine call_eq rfl hvi ?_ | refine call_eq rfl hvh ?_ | refine ify ?_ | refine ifn ?_ | refine i6 ?_ | refine ati ?_ | refine mst ?_ | refine rmd ?_ | refine ibo (fun _ => ?_) (fun _ => ?_)) <;> conv => whnf))
              exact rfl
end Go.Proofs.YtfkkfaociofkjaaDoor
