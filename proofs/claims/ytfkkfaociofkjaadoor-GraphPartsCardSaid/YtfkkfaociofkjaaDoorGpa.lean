/- GraphParts: the walk. -/
import Derived.Test.YtfkkfaociofkjaaDoorGla
import Derived.Test.YtfkkfaociofkjaaDoorGrs
import Derived.Test.YtfkkfaociofkjaaDoorLna
import Derived.Test.YtfkkfaociofkjaaDoorGrk
import Derived.Test.YtfkkfaociofkjaaDoorRfa
namespace Go.Proofs.YtfkkfaociofkjaaDoor
open Go.Sx Go.RowKit Go.Reg Go.Gr

set_option maxRecDepth 100000
def lastE (E : List Edg) : Nat → Edg
  | 0 => ⟨-1, -1⟩
  | k + 1 => (E[k]?).getD ⟨0, 0⟩
theorem lastE_lt {G : Gr} (hG : G.Ok) {i : Nat} {e : Edg} (h : G.edges[i]? = some e) : (lastE G.edges i).a < e.a ∨ ((lastE G.edges i).a = e.a ∧ (lastE G.edges i).b < e.b) := by
  have hb := hG.edge e (List.mem_of_getElem? h)
  cases i with
  | zero => left; simp only [lastE]; omega
  | succ k =>
    have hk := List.getElem?_eq_getElem (l := G.edges) (i := k) (by have := (List.getElem?_eq_some_iff.1 h).1; omega)
    have := strict_get hG.sorted hk h (by omega)
    rw [cmpE_lt] at this
    simp only [lastE, hk, Option.getD_some]
    exact this
theorem lastE_at {E : List Edg} {i : Nat} {e : Edg} (h : E[i]? = some e) : lastE E (i + 1) = e := by simp [lastE, h]
def pl_gparts : List (Nat × Plan) := [(32, .leaf [0, 0, 0, 0, 1, 0, 2, 0, 0, 0, 0, 0, 1, 0, 0, 0, 0, 0, 0, 0, 0, 0, 0, 0, 1, 0, 0, 0, 1, 0, 0, 0] [0, 1, 2, 3, 5, 4, 6, 7, 8, 9, 10, 11, 13, 12, 14, 15, 16, 17, 18, 19, 20, 21, 22, 23, 25, 26, 27, 24, 28, 29, 30, 31] [0, 0, 0, 6, 14, 0, 63, 127, 255, 511, 511, 2047, 4095, 511, 16383, 32767, 65535, 131071, 262143, 524287, 1048575, 1048575, 3145727, 8388607, 16777215, 1048575, 1048575, 101711871, 235929599, 536870911, 1073741823, 2147483647])]
def G_gparts : List FuncId := [22, 23, 12, 11]
theorem cok_gparts : codeOk Tryd.prog G_gparts pl_gparts (Tryd.f5.body.getD .skip) = true := by kernel_rfl
theorem run_gparts (vs : Array Value) (w : World) : (callFunc 5 vs).run C1.P w = .ok (.enter 5 vs) w := by kernel_rfl
set_option maxHeartbeats 4000000 in
theorem gparts_pure (labels : List Int) (edges : List Edg) : Pure C1 5 [dIs labels, dEs edges] (fun y => y = .bool true) := by
  refine pure_of c1_ok (pl := pl_gparts) (G := G_gparts) Tryd.func5 rfl Tryd.ntmps5 run_gparts cok_gparts (by simp) ?_
  ((conv => whnf); repeat' ((first | refine odw ?_ | refine ify ?_ | refine ifn ?_ | refine i6 ?_ | refine ati ?_ | refine mst ?_ | refine rmd ?_ | refine ibo (fun _ => ?_) (fun _ => ?_)) <;> conv => whnf))
  refine call_eq rfl galive_pure ?_
  ((conv => whnf); repeat' ((first | refine odw ?_ | refine ify ?_ | refine ifn ?_ | refine i6 ?_ | refine ati ?_ | refine mst ?_ | refine rmd ?_ | refine ibo (fun _ => ?_) (fun _ => ?_)) <;> conv => whnf))
  refine call_eq rfl (made_pure labels edges) ?_
  rcases made_case labels edges with e | ⟨G, e, hG, hn, hm, _, _, _⟩
  · rw [e]
    ((conv => whnf); repeat' ((first | refine odw ?_ | refine ify ?_ | refine ifn ?_ | refine i6 ?_ | refine ati ?_ | refine mst ?_ | refine rmd ?_ | refine ibo (fun _ => ?_) (fun _ => ?_)) <;> conv => whnf))
    exact rfl
  rw [e]
  have hsize := size_pure G
  have hlen := len_pure G
  ((conv => whnf); repeat' ((first | refine odw ?_ | refine ify ?_ | refine ifn ?_ | refine i6 ?_ | refine ati ?_ | refine mst ?_ | refine rmd ?_ | refine ibo (fun _ => ?_) (fun _ => ?_)) <;> conv => whnf))
  refine loop_lo (ι := Nat) (fun i => i ≤ G.edges.length) (fun i => [(9, .d (.int .i64 i)), (8, .own 8), (5, .d (dG G))]) (fun i => [(8, .cells 34 [.d (.int .i64 (lastE G.edges i).a), .d (.int .i64 (lastE G.edges i).b)])])
    (fun i => G.edges.length - i) 0 (fun _ => rfl) (Nat.zero_le _) (.refl _ _) ⟨rfl, rfl, rfl, trivial⟩ ⟨rfl, trivial⟩ ?_
  intro i hi
  refine sxCode_sound c1_ok (G := G_gparts) (pl := pl_gparts) _ _ _ _ (by kernel_rfl) ?_
  by_cases hlt : i < G.edges.length
  · have hx := List.getElem?_eq_getElem hlt
    have hb := hG.edge _ (List.getElem_mem hlt)
    generalize G.edges[i] = x at hx hb
    have hed : edgeY G.edges (i : Int) = .tuple [dE x, .bool true] := by unfold edgeY; rw [if_pos (by omega), Int.toNat_natCast, hx]; rfl
    have hL := lastE_lt hG hx
    have hLa := lastE_at hx
    generalize hlast : lastE G.edges i = z at hL
    have ht : turn ⟨x.a, x.b⟩ = x := turn_le (by simp only; omega)
    have h1 := id_pure G hG x.a x.b
    rw [ht, idV_mem hG.sorted hx] at h1
    have h2 := id_pure G hG x.b x.a
    rw [turn_sym, ht, idV_mem hG.sorted hx] at h2
    by_cases hz : x.a = z.a
    · have hz2 : z.b < x.b := by omega
      (conv => whnf)
      (repeat' ((first | refine ord_ok (by (conv => whnf); (repeat' ((first | refine call_eq rfl hsize ?_ | refine ify ?_ | refine ifn ?_ | refine i6 ?_ | refine ati ?_ | refine mst ?_ | refine rmd ?_ | refine ibo (fun _ => ?_) (fun _ => ?_)) <;> conv => whnf)); (all_goals (repeat' (first | exact trivial | exact rfl | refine And.intro ?_ ?_)))) ?_ | refine call_eq rfl hsize ?_ | refine ify ?_ | refine ifn ?_ | refine i6 ?_ | refine ati ?_ | refine mst ?_ | refine rmd ?_ | refine ibo (fun _ => ?_) (fun _ => ?_)) <;> conv => whnf))
      refine call_eq rfl (edge_pure G i) ?_
      rw [hed]
      (conv => whnf)
      (repeat' ((first | refine ord_ok (by (conv => whnf); (repeat' ((first | refine call_eq rfl h1 ?_ | refine call_eq rfl h2 ?_ | refine ify ?_ | refine ifn ?_ | refine i6 ?_ | refine ati ?_ | refine mst ?_ | refine rmd ?_ | refine ibo (fun _ => ?_) (fun _ => ?_)) <;> conv => whnf)); (all_goals (repeat' (first | exact trivial | exact rfl | refine And.intro ?_ ?_)))) ?_ | refine call_eq rfl h1 ?_ | refine call_eq rfl h2 ?_ | refine ify ?_ | refine ifn ?_ | refine i6 ?_ | refine ati ?_ | refine mst ?_ | refine rmd ?_ | refine ibo (fun _ => ?_) (fun _ => ?_)) <;> conv => whnf))
      refine loop_lo (ι := Nat) (fun v => v ≤ G.labels.length) (fun v => [(12, .d (.int .i64 v)), (10, .own 10), (9, .d (.int .i64 i)), (8, .own 8), (5, .d (dG G))]) (fun v => [(8, .cells 34 [.d (.int .i64 x.a), .d (.int .i64 x.b)]), (10, .cells 34 [.d (.int .i64 x.a), .d (.int .i64 x.b)])])
        (fun v => G.labels.length - v) 0 (fun _ => rfl) (Nat.zero_le _) (.refl _ _) ⟨rfl, rfl, rfl, rfl, rfl, trivial⟩ ⟨rfl, rfl, trivial⟩ ?_
      intro v hv
      refine sxCode_sound c1_ok (G := G_gparts) (pl := pl_gparts) _ _ _ _ (by kernel_rfl) ?_
      by_cases hvl : v < G.labels.length
      · have hat : atY G (v : Int) = dIs (atD G.edges v) := by unfold atY; rw [if_pos (by omega), Int.toNat_natCast]
        have hap := at_pure G hG v
        rw [hat] at hap
        have hmem : (i : Int) ∈ atD G.edges v ↔ (x.a = v ∨ x.b = v) := by
          rw [mem_atD]
          constructor
          · rintro ⟨j, e, h1, h2, h3⟩
            have : i = j := by omega
            subst this
            rw [hx] at h2; cases h2; exact h3
          · exact fun h => ⟨i, x, rfl, hx, h⟩
        have hLb : (atD G.edges v).length ≤ G.edges.length := by
          unfold atD
          have := List.length_filter_le (fun p : Edg × Nat => decide (p.1.a = (v : Int) ∨ p.1.b = (v : Int))) G.edges.zipIdx
          rw [List.length_zipIdx] at this
          rw [List.length_map]; exact this
        generalize atD G.edges v = L at hap hmem hLb
        have hLl : (L.map dI).length = L.length := List.length_map _
        (conv => whnf)
        (repeat' ((first | refine ord_ok (by (conv => whnf); (repeat' ((first | refine call_eq rfl hlen ?_ | refine call_eq rfl hap ?_ | refine ify ?_ | refine ifn ?_ | refine i6 ?_ | refine ati ?_ | refine mst ?_ | refine rmd ?_ | refine ibo (fun _ => ?_) (fun _ => ?_)) <;> conv => whnf)); (all_goals (repeat' (first | exact trivial | exact rfl | refine And.intro ?_ ?_)))) ?_ | refine call_eq rfl hlen ?_ | refine call_eq rfl hap ?_ | refine ify ?_ | refine ifn ?_ | refine i6 ?_ | refine ati ?_ | refine mst ?_ | refine rmd ?_ | refine ibo (fun _ => ?_) (fun _ => ?_)) <;> conv => whnf))
        refine loop_lo (ι := Nat) (fun k => k ≤ L.length) (fun k => [(15, .d (.int .i64 k)), (14, .d (.bool (decide ((i : Int) ∈ L.take k)))), (13, .d (dIs L)), (12, .d (.int .i64 v)), (10, .own 10), (9, .d (.int .i64 i)), (8, .own 8), (5, .d (dG G))]) (fun v => [(8, .cells 34 [.d (.int .i64 x.a), .d (.int .i64 x.b)]), (10, .cells 34 [.d (.int .i64 x.a), .d (.int .i64 x.b)])])
          (fun k => L.length - k) 0 (fun _ => rfl) (Nat.zero_le _) (.refl _ _) ⟨rfl, rfl, rfl, rfl, rfl, rfl, rfl, rfl, trivial⟩ ⟨rfl, rfl, trivial⟩ ?_
        intro k hk
        refine sxCode_sound c1_ok (G := G_gparts) (pl := pl_gparts) _ _ _ _ (by kernel_rfl) ?_
        by_cases hkl : k < L.length
        · have hu := List.getElem?_eq_getElem hkl
          generalize L[k] = u at hu
          have hud : (L.map dI)[k]? = some (.int .i64 u) := by rw [List.getElem?_map, hu]; rfl
          have htk : (i : Int) ∈ L.take (k + 1) ↔ ((i : Int) ∈ L.take k ∨ u = i) := by
            rw [List.take_add_one, hu]; simp only [Option.toList_some, List.mem_append, List.mem_singleton]
            constructor
            · rintro (h | h)
              · exact .inl h
              · exact .inr h.symm
            · rintro (h | h)
              · exact .inl h
              · exact .inr h.symm
          by_cases hin : (i : Int) ∈ L.take k
          · rw [decide_eq_true hin]
            (conv => whnf)
            (repeat' ((first | refine ord_ok (by (conv => whnf); (repeat' ((first | refine at_da hud rfl ?_ | refine ify ?_ | refine ifn ?_ | refine i6 ?_ | refine ati ?_ | refine mst ?_ | refine rmd ?_ | refine ibo (fun _ => ?_) (fun _ => ?_)) <;> conv => whnf)); (all_goals (repeat' (first | exact trivial | exact rfl | refine And.intro ?_ ?_)))) ?_ | refine at_da hud rfl ?_ | refine ify ?_ | refine ifn ?_ | refine i6 ?_ | refine ati ?_ | refine mst ?_ | refine rmd ?_ | refine ibo (fun _ => ?_) (fun _ => ?_)) <;> conv => whnf))
            exact ⟨k + 1, _, _, hkl, .refl _ _, ⟨rfl, by rw [decide_eq_true (htk.2 (.inl hin))]; rfl, rfl, rfl, rfl, rfl, rfl, rfl, trivial⟩, ⟨rfl, rfl, trivial⟩, by omega⟩
          · rw [decide_eq_false hin]
            (conv => whnf)
            (repeat' ((first | refine ord_ok (by (conv => whnf); (repeat' ((first | refine at_da hud rfl ?_ | refine ify ?_ | refine ifn ?_ | refine i6 ?_ | refine ati ?_ | refine mst ?_ | refine rmd ?_ | refine ibo (fun _ => ?_) (fun _ => ?_)) <;> conv => whnf)); (all_goals (repeat' (first | exact trivial | exact rfl | refine And.intro ?_ ?_)))) ?_ | refine at_da hud rfl ?_ | refine ify ?_ | refine ifn ?_ | refine i6 ?_ | refine ati ?_ | refine mst ?_ | refine rmd ?_ | refine ibo (fun _ => ?_) (fun _ => ?_)) <;> conv => whnf))
            have hdec : decide (u = (i : Int)) = decide ((i : Int) ∈ L.take (k + 1)) := by
              rw [decide_eq_decide, htk]
              exact ⟨.inr, fun h => h.resolve_left hin⟩
            exact ⟨k + 1, _, _, hkl, .lax 14 rfl (.prop _ hdec) (.refl _ _), ⟨rfl, rfl, rfl, rfl, rfl, rfl, rfl, rfl, trivial⟩, ⟨rfl, rfl, trivial⟩, by omega⟩
        · have hkL : L.take k = L := List.take_of_length_le (by omega)
          rw [hkL]
          by_cases hva : (v : Int) = x.a
          · rw [decide_eq_true (hmem.2 (.inl hva.symm))]
            (conv => whnf)
            (repeat' ((first | refine ord_ok (by (conv => whnf); (repeat' ((first | refine if_no (fun h => h Iff.rfl) ?_ | refine ify ?_ | refine ifn ?_ | refine i6 ?_ | refine ati ?_ | refine mst ?_ | refine rmd ?_ | refine ibo (fun _ => ?_) (fun _ => ?_)) <;> conv => whnf)); (all_goals (repeat' (first | exact trivial | exact rfl | refine And.intro ?_ ?_)))) ?_ | refine if_no (fun h => h Iff.rfl) ?_ | refine ify ?_ | refine ifn ?_ | refine i6 ?_ | refine ati ?_ | refine mst ?_ | refine rmd ?_ | refine ibo (fun _ => ?_) (fun _ => ?_)) <;> conv => whnf))
            exact ⟨v + 1, _, _, hvl, .refl _ _, ⟨rfl, rfl, rfl, rfl, rfl, trivial⟩, ⟨rfl, rfl, trivial⟩, by omega⟩
          · by_cases hvb : (v : Int) = x.b
            · rw [decide_eq_true (hmem.2 (.inr hvb.symm))]
              have hif : ¬ ¬ (true = true ↔ (v : Int) = x.b) := fun h => h ⟨fun _ => hvb, fun _ => rfl⟩
              (conv => whnf)
              (repeat' ((first | refine ord_ok (by (conv => whnf); (repeat' ((first | refine if_no (fun h => h Iff.rfl) ?_ | refine ify ?_ | refine ifn ?_ | refine i6 ?_ | refine ati ?_ | refine mst ?_ | refine rmd ?_ | refine ibo (fun _ => ?_) (fun _ => ?_)) <;> conv => whnf)); (all_goals (repeat' (first | exact trivial | exact rfl | refine And.intro ?_ ?_)))) ?_ | refine if_no (fun h => h Iff.rfl) ?_ | refine ify ?_ | refine ifn ?_ | refine i6 ?_ | refine ati ?_ | refine mst ?_ | refine rmd ?_ | refine ibo (fun _ => ?_) (fun _ => ?_)) <;> conv => whnf))
              exact ⟨v + 1, _, _, hvl, .refl _ _, ⟨rfl, rfl, rfl, rfl, rfl, trivial⟩, ⟨rfl, rfl, trivial⟩, by omega⟩
            · rw [decide_eq_false (fun h => by have := hmem.1 h; omega)]
              have hif : ¬ ¬ (false = true ↔ (v : Int) = x.b) := fun h => h ⟨fun h => (by cases h), fun h => absurd h hvb⟩
              (conv => whnf)
              (repeat' ((first | refine ord_ok (by (conv => whnf); (repeat' ((first | refine if_no (fun h => h Iff.rfl) ?_ | refine ify ?_ | refine ifn ?_ | refine i6 ?_ | refine ati ?_ | refine mst ?_ | refine rmd ?_ | refine ibo (fun _ => ?_) (fun _ => ?_)) <;> conv => whnf)); (all_goals (repeat' (first | exact trivial | exact rfl | refine And.intro ?_ ?_)))) ?_ | refine if_no (fun h => h Iff.rfl) ?_ | refine ify ?_ | refine ifn ?_ | refine i6 ?_ | refine ati ?_ | refine mst ?_ | refine rmd ?_ | refine ibo (fun _ => ?_) (fun _ => ?_)) <;> conv => whnf))
              exact ⟨v + 1, _, _, hvl, .refl _ _, ⟨rfl, rfl, rfl, rfl, rfl, trivial⟩, ⟨rfl, rfl, trivial⟩, by omega⟩
      · (conv => whnf)
        (repeat' ((first | refine ord_ok (by (conv => whnf); (repeat' ((first | refine call_eq rfl hlen ?_ | refine ify ?_ | refine ifn ?_ | refine i6 ?_ | refine ati ?_ | refine mst ?_ | refine rmd ?_ | refine ibo (fun _ => ?_) (fun _ => ?_)) <;> conv => whnf)); (all_goals (repeat' (first | exact trivial | exact rfl | refine And.intro ?_ ?_)))) ?_ | refine call_eq rfl hlen ?_ | refine ify ?_ | refine ifn ?_ | refine i6 ?_ | refine ati ?_ | refine mst ?_ | refine rmd ?_ | refine ibo (fun _ => ?_) (fun _ => ?_)) <;> conv => whnf))
        exact ⟨i + 1, _, _, hlt, .refl _ _, ⟨rfl, rfl, rfl, trivial⟩, ⟨by rw [hLa]; rfl, trivial⟩, by omega⟩
    · have hz2 : z.a < x.a := by omega
      (conv => whnf)
      (repeat' ((first | refine ord_ok (by (conv => whnf); (repeat' ((first | refine call_eq rfl hsize ?_ | refine ify ?_ | refine ifn ?_ | refine i6 ?_ | refine ati ?_ | refine mst ?_ | refine rmd ?_ | refine ibo (fun _ => ?_) (fun _ => ?_)) <;> conv => whnf)); (all_goals (repeat' (first | exact trivial | exact rfl | refine And.intro ?_ ?_)))) ?_ | refine call_eq rfl hsize ?_ | refine ify ?_ | refine ifn ?_ | refine i6 ?_ | refine ati ?_ | refine mst ?_ | refine rmd ?_ | refine ibo (fun _ => ?_) (fun _ => ?_)) <;> conv => whnf))
      refine call_eq rfl (edge_pure G i) ?_
      rw [hed]
      (conv => whnf)
      (repeat' ((first | refine ord_ok (by (conv => whnf); (repeat' ((first | refine call_eq rfl h1 ?_ | refine call_eq rfl h2 ?_ | refine ify ?_ | refine ifn ?_ | refine i6 ?_ | refine ati ?_ | refine mst ?_ | refine rmd ?_ | refine ibo (fun _ => ?_) (fun _ => ?_)) <;> conv => whnf)); (all_goals (repeat' (first | exact trivial | exact rfl | refine And.intro ?_ ?_)))) ?_ | refine call_eq rfl h1 ?_ | refine call_eq rfl h2 ?_ | refine ify ?_ | refine ifn ?_ | refine i6 ?_ | refine ati ?_ | refine mst ?_ | refine rmd ?_ | refine ibo (fun _ => ?_) (fun _ => ?_)) <;> conv => whnf))
      refine loop_lo (ι := Nat) (fun v => v ≤ G.labels.length) (fun v => [(12, .d (.int .i64 v)), (10, .own 10), (9, .d (.int .i64 i)), (8, .own 8), (5, .d (dG G))]) (fun v => [(8, .cells 34 [.d (.int .i64 x.a), .d (.int .i64 x.b)]), (10, .cells 34 [.d (.int .i64 x.a), .d (.int .i64 x.b)])])
        (fun v => G.labels.length - v) 0 (fun _ => rfl) (Nat.zero_le _) (.refl _ _) ⟨rfl, rfl, rfl, rfl, rfl, trivial⟩ ⟨rfl, rfl, trivial⟩ ?_
      intro v hv
      refine sxCode_sound c1_ok (G := G_gparts) (pl := pl_gparts) _ _ _ _ (by kernel_rfl) ?_
      by_cases hvl : v < G.labels.length
      · have hat : atY G (v : Int) = dIs (atD G.edges v) := by unfold atY; rw [if_pos (by omega), Int.toNat_natCast]
        have hap := at_pure G hG v
        rw [hat] at hap
        have hmem : (i : Int) ∈ atD G.edges v ↔ (x.a = v ∨ x.b = v) := by
          rw [mem_atD]
          constructor
          · rintro ⟨j, e, h1, h2, h3⟩
            have : i = j := by omega
            subst this
            rw [hx] at h2; cases h2; exact h3
          · exact fun h => ⟨i, x, rfl, hx, h⟩
        have hLb : (atD G.edges v).length ≤ G.edges.length := by
          unfold atD
          have := List.length_filter_le (fun p : Edg × Nat => decide (p.1.a = (v : Int) ∨ p.1.b = (v : Int))) G.edges.zipIdx
          rw [List.length_zipIdx] at this
          rw [List.length_map]; exact this
        generalize atD G.edges v = L at hap hmem hLb
        have hLl : (L.map dI).length = L.length := List.length_map _
        (conv => whnf)
        (repeat' ((first | refine ord_ok (by (conv => whnf); (repeat' ((first | refine call_eq rfl hlen ?_ | refine call_eq rfl hap ?_ | refine ify ?_ | refine ifn ?_ | refine i6 ?_ | refine ati ?_ | refine mst ?_ | refine rmd ?_ | refine ibo (fun _ => ?_) (fun _ => ?_)) <;> conv => whnf)); (all_goals (repeat' (first | exact trivial | exact rfl | refine And.intro ?_ ?_)))) ?_ | refine call_eq rfl hlen ?_ | refine call_eq rfl hap ?_ | refine ify ?_ | refine ifn ?_ | refine i6 ?_ | refine ati ?_ | refine mst ?_ | refine rmd ?_ | refine ibo (fun _ => ?_) (fun _ => ?_)) <;> conv => whnf))
        refine loop_lo (ι := Nat) (fun k => k ≤ L.length) (fun k => [(15, .d (.int .i64 k)), (14, .d (.bool (decide ((i : Int) ∈ L.take k)))), (13, .d (dIs L)), (12, .d (.int .i64 v)), (10, .own 10), (9, .d (.int .i64 i)), (8, .own 8), (5, .d (dG G))]) (fun v => [(8, .cells 34 [.d (.int .i64 x.a), .d (.int .i64 x.b)]), (10, .cells 34 [.d (.int .i64 x.a), .d (.int .i64 x.b)])])
          (fun k => L.length - k) 0 (fun _ => rfl) (Nat.zero_le _) (.refl _ _) ⟨rfl, rfl, rfl, rfl, rfl, rfl, rfl, rfl, trivial⟩ ⟨rfl, rfl, trivial⟩ ?_
        intro k hk
        refine sxCode_sound c1_ok (G := G_gparts) (pl := pl_gparts) _ _ _ _ (by kernel_rfl) ?_
        by_cases hkl : k < L.length
        · have hu := List.getElem?_eq_getElem hkl
          generalize L[k] = u at hu
          have hud : (L.map dI)[k]? = some (.int .i64 u) := by rw [List.getElem?_map, hu]; rfl
          have htk : (i : Int) ∈ L.take (k + 1) ↔ ((i : Int) ∈ L.take k ∨ u = i) := by
            rw [List.take_add_one, hu]; simp only [Option.toList_some, List.mem_append, List.mem_singleton]
            constructor
            · rintro (h | h)
              · exact .inl h
              · exact .inr h.symm
            · rintro (h | h)
              · exact .inl h
              · exact .inr h.symm
          by_cases hin : (i : Int) ∈ L.take k
          · rw [decide_eq_true hin]
            (conv => whnf)
            (repeat' ((first | refine ord_ok (by (conv => whnf); (repeat' ((first | refine at_da hud rfl ?_ | refine ify ?_ | refine ifn ?_ | refine i6 ?_ | refine ati ?_ | refine mst ?_ | refine rmd ?_ | refine ibo (fun _ => ?_) (fun _ => ?_)) <;> conv => whnf)); (all_goals (repeat' (first | exact trivial | exact rfl | refine And.intro ?_ ?_)))) ?_ | refine at_da hud rfl ?_ | refine ify ?_ | refine ifn ?_ | refine i6 ?_ | refine ati ?_ | refine mst ?_ | refine rmd ?_ | refine ibo (fun _ => ?_) (fun _ => ?_)) <;> conv => whnf))
            exact ⟨k + 1, _, _, hkl, .refl _ _, ⟨rfl, by rw [decide_eq_true (htk.2 (.inl hin))]; rfl, rfl, rfl, rfl, rfl, rfl, rfl, trivial⟩, ⟨rfl, rfl, trivial⟩, by omega⟩
          · rw [decide_eq_false hin]
            (conv => whnf)
            (repeat' ((first | refine ord_ok (by (conv => whnf); (repeat' ((first | refine at_da hud rfl ?_ | refine ify ?_ | refine ifn ?_ | refine i6 ?_ | refine ati ?_ | refine mst ?_ | refine rmd ?_ | refine ibo (fun _ => ?_) (fun _ => ?_)) <;> conv => whnf)); (all_goals (repeat' (first | exact trivial | exact rfl | refine And.intro ?_ ?_)))) ?_ | refine at_da hud rfl ?_ | refine ify ?_ | refine ifn ?_ | refine i6 ?_ | refine ati ?_ | refine mst ?_ | refine rmd ?_ | refine ibo (fun _ => ?_) (fun _ => ?_)) <;> conv => whnf))
            have hdec : decide (u = (i : Int)) = decide ((i : Int) ∈ L.take (k + 1)) := by
              rw [decide_eq_decide, htk]
              exact ⟨.inr, fun h => h.resolve_left hin⟩
            exact ⟨k + 1, _, _, hkl, .lax 14 rfl (.prop _ hdec) (.refl _ _), ⟨rfl, rfl, rfl, rfl, rfl, rfl, rfl, rfl, trivial⟩, ⟨rfl, rfl, trivial⟩, by omega⟩
        · have hkL : L.take k = L := List.take_of_length_le (by omega)
          rw [hkL]
          by_cases hva : (v : Int) = x.a
          · rw [decide_eq_true (hmem.2 (.inl hva.symm))]
            (conv => whnf)
            (repeat' ((first | refine ord_ok (by (conv => whnf); (repeat' ((first | refine if_no (fun h => h Iff.rfl) ?_ | refine ify ?_ | refine ifn ?_ | refine i6 ?_ | refine ati ?_ | refine mst ?_ | refine rmd ?_ | refine ibo (fun _ => ?_) (fun _ => ?_)) <;> conv => whnf)); (all_goals (repeat' (first | exact trivial | exact rfl | refine And.intro ?_ ?_)))) ?_ | refine if_no (fun h => h Iff.rfl) ?_ | refine ify ?_ | refine ifn ?_ | refine i6 ?_ | refine ati ?_ | refine mst ?_ | refine rmd ?_ | refine ibo (fun _ => ?_) (fun _ => ?_)) <;> conv => whnf))
            exact ⟨v + 1, _, _, hvl, .refl _ _, ⟨rfl, rfl, rfl, rfl, rfl, trivial⟩, ⟨rfl, rfl, trivial⟩, by omega⟩
          · by_cases hvb : (v : Int) = x.b
            · rw [decide_eq_true (hmem.2 (.inr hvb.symm))]
              have hif : ¬ ¬ (true = true ↔ (v : Int) = x.b) := fun h => h ⟨fun _ => hvb, fun _ => rfl⟩
              (conv => whnf)
              (repeat' ((first | refine ord_ok (by (conv => whnf); (repeat' ((first | refine if_no (fun h => h Iff.rfl) ?_ | refine ify ?_ | refine ifn ?_ | refine i6 ?_ | refine ati ?_ | refine mst ?_ | refine rmd ?_ | refine ibo (fun _ => ?_) (fun _ => ?_)) <;> conv => whnf)); (all_goals (repeat' (first | exact trivial | exact rfl | refine And.intro ?_ ?_)))) ?_ | refine if_no (fun h => h Iff.rfl) ?_ | refine ify ?_ | refine ifn ?_ | refine i6 ?_ | refine ati ?_ | refine mst ?_ | refine rmd ?_ | refine ibo (fun _ => ?_) (fun _ => ?_)) <;> conv => whnf))
              exact ⟨v + 1, _, _, hvl, .refl _ _, ⟨rfl, rfl, rfl, rfl, rfl, trivial⟩, ⟨rfl, rfl, trivial⟩, by omega⟩
            · rw [decide_eq_false (fun h => by have := hmem.1 h; omega)]
              have hif : ¬ ¬ (false = true ↔ (v : Int) = x.b) := fun h => h ⟨fun h => (by cases h), fun h => absurd h hvb⟩
              (conv => whnf)
              (repeat' ((first | refine ord_ok (by (conv => whnf); (repeat' ((first | refine if_no (fun h => h Iff.rfl) ?_ | refine ify ?_ | refine ifn ?_ | refine i6 ?_ | refine ati ?_ | refine mst ?_ | refine rmd ?_ | refine ibo (fun _ => ?_) (fun _ => ?_)) <;> conv => whnf)); (all_goals (repeat' (first | exact trivial | exact rfl | refine And.intro ?_ ?_)))) ?_ | refine if_no (fun h => h Iff.rfl) ?_ | refine ify ?_ | refine ifn ?_ | refine i6 ?_ | refine ati ?_ | refine mst ?_ | refine rmd ?_ | refine ibo (fun _ => ?_) (fun _ => ?_)) <;> conv => whnf))
              exact ⟨v + 1, _, _, hvl, .refl _ _, ⟨rfl, rfl, rfl, rfl, rfl, trivial⟩, ⟨rfl, rfl, trivial⟩, by omega⟩
      · (conv => whnf)
        (repeat' ((first | refine ord_ok (by (conv => whnf); (repeat' ((first | refine call_eq rfl hlen ?_ | refine ify ?_ | refine ifn ?_ | refine i6 ?_ | refine ati ?_ | refine mst ?_ | refine rmd ?_ | refine ibo (fun _ => ?_) (fun _ => ?_)) <;> conv => whnf)); (all_goals (repeat' (first | exact trivial | exact rfl | refine And.intro ?_ ?_)))) ?_ | refine call_eq rfl hlen ?_ | refine ify ?_ | refine ifn ?_ | refine i6 ?_ | refine ati ?_ | refine mst ?_ | refine rmd ?_ | refine ibo (fun _ => ?_) (fun _ => ?_)) <;> conv => whnf))
        exact ⟨i + 1, _, _, hlt, .refl _ _, ⟨rfl, rfl, rfl, trivial⟩, ⟨by rw [hLa]; rfl, trivial⟩, by omega⟩
  · (conv => whnf)
    (repeat' ((first | refine ord_ok (by (conv => whnf); (repeat' ((first | refine call_eq rfl hsize ?_ | refine ify ?_ | refine ifn ?_ | refine i6 ?_ | refine ati ?_ | refine mst ?_ | refine rmd ?_ | refine ibo (fun _ => ?_) (fun _ => ?_)) <;> conv => whnf)); (all_goals (repeat' (first | exact trivial | exact rfl | refine And.intro ?_ ?_)))) ?_ | refine call_eq rfl hsize ?_ | refine ify ?_ | refine ifn ?_ | refine i6 ?_ | refine ati ?_ | refine mst ?_ | refine rmd ?_ | refine ibo (fun _ => ?_) (fun _ => ?_)) <;> conv => whnf))
    refine loop_lo (ι := Nat) (fun v => v ≤ G.labels.length) (fun v => [(16, .d (.int .i64 v)), (5, .d (dG G))]) (fun v => []) (fun v => G.labels.length - v) 0 (fun _ => rfl) (Nat.zero_le _) (.refl _ _) ⟨rfl, rfl, trivial⟩ trivial ?_
    intro v hv
    refine sxCode_sound c1_ok (G := G_gparts) (pl := pl_gparts) _ _ _ _ (by kernel_rfl) ?_
    by_cases hvl : v < G.labels.length
    · have hny : nearY G (v : Int) = dIs (nearOf G.edges v) := by unfold nearY; rw [if_pos (by omega), Int.toNat_natCast]
      have hnp := near_pure G hG v
      rw [hny] at hnp
      have hmem := fun u => mem_near hG (v := v) (u := u)
      have hrise := near_rise hG v
      have hLb := deg_le G.edges v
      unfold deg at hLb
      generalize nearOf G.edges v = L at hnp hmem hrise hLb
      have hLl : (L.map dI).length = L.length := List.length_map _
      (conv => whnf)
      (repeat' ((first | refine ord_ok (by (conv => whnf); (repeat' ((first | refine call_eq rfl hlen ?_ | refine call_eq rfl hnp ?_ | refine ify ?_ | refine ifn ?_ | refine i6 ?_ | refine ati ?_ | refine mst ?_ | refine rmd ?_ | refine ibo (fun _ => ?_) (fun _ => ?_)) <;> conv => whnf)); (all_goals (repeat' (first | exact trivial | exact rfl | refine And.intro ?_ ?_)))) ?_ | refine call_eq rfl hlen ?_ | refine call_eq rfl hnp ?_ | refine ify ?_ | refine ifn ?_ | refine i6 ?_ | refine ati ?_ | refine mst ?_ | refine rmd ?_ | refine ibo (fun _ => ?_) (fun _ => ?_)) <;> conv => whnf))
      refine loop_lo (ι := Nat) (fun k => k ≤ L.length) (fun k => [(18, .d (.int .i64 k)), (17, .d (dIs L)), (16, .d (.int .i64 v)), (5, .d (dG G))]) (fun v => []) (fun k => L.length - k) 0 (fun _ => rfl) (Nat.zero_le _) (.refl _ _) ⟨rfl, rfl, rfl, rfl, trivial⟩ trivial ?_
      intro k hk
      refine sxCode_sound c1_ok (G := G_gparts) (pl := pl_gparts) _ _ _ _ (by kernel_rfl) ?_
      by_cases hkl : k < L.length
      · have hu := List.getElem?_eq_getElem hkl
        have hum := (hmem _).1 (List.getElem_mem hkl)
        generalize L[k] = u at hu hum
        have hud : (L.map dI)[k]? = some (.int .i64 u) := by rw [List.getElem?_map, hu]; rfl
        have hh := hasE_pure G hG u v
        rw [decide_eq_true hum.2.2] at hh
        have hne : ¬ u = v := by
          rintro rfl
          have := hG.edge _ hum.2.2
          simp only [turn] at this; omega
        cases k with
        | zero =>
          (conv => whnf)
          (repeat' ((first | refine ord_ok (by (conv => whnf); (repeat' ((first | refine at_da hud rfl ?_ | refine call_eq rfl hh ?_ | refine ify ?_ | refine ifn ?_ | refine i6 ?_ | refine ati ?_ | refine mst ?_ | refine rmd ?_ | refine ibo (fun _ => ?_) (fun _ => ?_)) <;> conv => whnf)); (all_goals (repeat' (first | exact trivial | exact rfl | refine And.intro ?_ ?_)))) ?_ | refine at_da hud rfl ?_ | refine call_eq rfl hh ?_ | refine ify ?_ | refine ifn ?_ | refine i6 ?_ | refine ati ?_ | refine mst ?_ | refine rmd ?_ | refine ibo (fun _ => ?_) (fun _ => ?_)) <;> conv => whnf))
          exact ⟨0 + 1, _, _, hkl, .refl _ _, ⟨rfl, rfl, rfl, rfl, trivial⟩, trivial, by omega⟩
        | succ j =>
          have hp := List.getElem?_eq_getElem (l := L) (i := j) (by omega)
          have hlt2 : L[j]'(by omega) < u := by
            obtain ⟨q, hq⟩ := List.getElem?_eq_some_iff.1 hu
            rw [← hq]
            exact List.pairwise_iff_getElem.1 hrise j (j + 1) (by omega) (by omega) (by omega)
          generalize L[j]'(by omega) = p at hp hlt2
          have hpd : (L.map dI)[j]? = some (.int .i64 p) := by rw [List.getElem?_map, hp]; rfl
          (conv => whnf)
          (repeat' ((first | refine ord_ok (by (conv => whnf); (repeat' ((first | refine at_da hud rfl ?_ | refine call_eq rfl hh ?_ | refine at_da hpd (by omega) ?_ | refine ify ?_ | refine ifn ?_ | refine i6 ?_ | refine ati ?_ | refine mst ?_ | refine rmd ?_ | refine ibo (fun _ => ?_) (fun _ => ?_)) <;> conv => whnf)); (all_goals (repeat' (first | exact trivial | exact rfl | refine And.intro ?_ ?_)))) ?_ | refine at_da hud rfl ?_ | refine call_eq rfl hh ?_ | refine at_da hpd (by omega) ?_ | refine ify ?_ | refine ifn ?_ | refine i6 ?_ | refine ati ?_ | refine mst ?_ | refine rmd ?_ | refine ibo (fun _ => ?_) (fun _ => ?_)) <;> conv => whnf))
          exact ⟨j + 1 + 1, _, _, hkl, .refl _ _, ⟨rfl, rfl, rfl, rfl, trivial⟩, trivial, by omega⟩
      · (conv => whnf)
        ((conv => whnf); repeat' ((first | refine odw ?_ | refine ify ?_ | refine ifn ?_ | refine i6 ?_ | refine ati ?_ | refine mst ?_ | refine rmd ?_ | refine ibo (fun _ => ?_) (fun _ => ?_)) <;> conv => whnf))
        exact ⟨v + 1, _, _, hvl, .refl _ _, ⟨rfl, rfl, trivial⟩, trivial, by omega⟩
    · (conv => whnf)
      (repeat' ((first | refine ord_ok (by (conv => whnf); (repeat' ((first | refine call_eq rfl hlen ?_ | refine ify ?_ | refine ifn ?_ | refine i6 ?_ | refine ati ?_ | refine mst ?_ | refine rmd ?_ | refine ibo (fun _ => ?_) (fun _ => ?_)) <;> conv => whnf)); (all_goals (repeat' (first | exact trivial | exact rfl | refine And.intro ?_ ?_)))) ?_ | refine call_eq rfl hlen ?_ | refine ify ?_ | refine ifn ?_ | refine i6 ?_ | refine ati ?_ | refine mst ?_ | refine rmd ?_ | refine ibo (fun _ => ?_) (fun _ => ?_)) <;> conv => whnf))
      exact rfl
end Go.Proofs.YtfkkfaociofkjaaDoor
