/- slices.Compact, slices.Delete at an owned slice of ints, told for the engine. · sets: Of. -/
import Derived.Test.YtmkbgbnehokmmaaGreatAtm
import Derived.Test.YtmkbgbnehokmmaaGreatLsc
import Derived.Test.YtmkbgbnehokmmaaGreatGrk
namespace Go.Reg
open Go Go.RowKit Go.Sort Go.Proofs
section
variable {E : Nat} {w : World} {l : List Int} {g cap : Nat}
theorem flat_one1 (l : List Int) : l.flatMap (fun n => [Value.int .i64 n]) = l.map (Value.int .i64) := by
  induction l with
  | nil => rfl
  | cons x l ih => simp [ih]
theorem Sl.holds1 (h : Sl E 1 (fun n : Int => [Value.int .i64 n]) w (.slice (some ⟨g, 0, none⟩) l.length cap) l) : Go.Sort.Holds (Value.int .i64) w g 0 l.toArray := by
  intro j hj
  have hj' : j < l.length := by simpa using hj
  have hx : l[j]? = some l.toArray[j]! := by rw [getElem!_pos l.toArray j hj]; simp [hj']
  have hc := Sl.cells (enc := fun n : Int => [Value.int .i64 n]) (k := 1) (fun _ => rfl) h rfl hx (j := 0) (u := Value.int .i64 l.toArray[j]!) rfl
  refine ⟨by simpa using hc, ?_⟩
  rcases h.2 with ⟨h1, _⟩ | ⟨g', cap', cur, h1, _, hg, _⟩
  · cases h1
  · cases h1
    simp [World.frozen?, hg]
theorem Sl.put1 (h : Sl E 1 (fun n : Int => [Value.int .i64 n]) w (.slice (some ⟨g, 0, none⟩) l.length cap) l) (d : Array Int) (hd : d.size = l.length) (m : Nat) (hm : m ≤ l.length) (q : Nat) :
    Sl E 1 (fun n : Int => [Value.int .i64 n]) (putRow (Value.int .i64) (Sort.ahead w q) g 0 d) (.slice (some ⟨g, 0, none⟩) m cap) (d.toList.take m) ∧ Tch [g] w (putRow (Value.int .i64) (Sort.ahead w q) g 0 d) := by
  have hlm : (d.toList.take m).length = m := by rw [List.length_take, Array.length_toList]; omega
  constructor
  · unfold Sl
    rw [flat_one1]
    refine ⟨by simp, ?_⟩
    rcases h.2 with ⟨h1, _⟩ | ⟨g', cap', cur, h1, h0, hg, hc, hmx, hs, ht⟩
    · cases h1
    · cases h1
      refine .inr ⟨g, cap, putCells (Value.int .i64) 0 d cur, by rw [hlm], Nat.zero_le _, ?_, by rw [hlm]; omega, hmx, by simp [putCells, hs], ?_⟩
      · simp [putRow, mapBlock, Sort.ahead, Array.getElem?_modify, hg, onCells]
      · rw [hlm]
        apply List.ext_getElem?
        intro t
        rw [List.getElem?_take, List.getElem?_map, List.getElem?_take]
        split
        · rename_i hlt
          have h1 : t < cur.size := by omega
          have h2 : t < d.size := by omega
          have h3 : t < m := by omega
          simp [putCells, h1, h2, h3]
        · rename_i hlt
          have h3 : ¬ t < m := by omega
          simp [h3]
  · refine ⟨rfl, rfl, rfl, ?_, ?_⟩
    · simp [putRow, mapBlock, Sort.ahead]
    · intro j hj hn
      have hne : g ≠ j := fun e => hn (by simp [e])
      simp [putRow, mapBlock, Sort.ahead, Array.getElem?_modify, hne]
end
end Go.Reg
namespace Go.Proofs.YtmkbgbnehokmmaaGreat
open Go.RowKit Go.Shelf Go.Sx Go.Reg Go.Sort Go.Gr Go.Proofs

set_option maxRecDepth 100000
theorem ints_cs {O : List Nat} {w : World} : ∀ {l : List Int} {css : List (List Value)}, RepCss O w (l.map dI) css → css = l.map (fun n => [Value.int .i64 n])
  | [], css, h => by simpa only [List.map_nil, RepCss] using h
  | e :: l, css, h => by
    simp only [List.map_cons, RepCss, dI, RepC] at h
    obtain ⟨c1, c2, rfl, rfl, h⟩ := h
    rw [ints_cs h]; rfl
theorem ints_sl {E : Nat} {w : World} {v : Value} {l : List Int} : Sl E 1 id w v (l.map fun n => [Value.int .i64 n]) ↔ Sl E 1 (fun n : Int => [Value.int .i64 n]) w v l := by
  unfold Sl
  rw [List.length_map, List.flatMap_map]
  exact Iff.rfl
/-- between the shelf's words and 'EatSl' -/
theorem eat_of {f : FuncId} {l : List Int} {xs : List Da} {r : List Int} {vs : List Value} (hxs : ∀ (O : List Nat) (w : World) (us : List Value), Reps O w xs us → us = vs) (hrl : r.length ≤ l.length)
    (hrun : ∀ (us : Array Value) (w : World), (callFunc f us).run C1.P w = .ok (.enter f us) w)
    (hnil : l = [] → ∀ w : World, Calls C1.P f (.slice none 0 0 :: vs).toArray w fun e w' => e = .returned (.slice none 0 0) ∧ w' = w)
    (hmem : ∀ (g cap : Nat) (w : World), Go.Sort.Holds (Value.int .i64) w g 0 l.toArray → l.length ≤ cap → cap ≤ 9223372036854775807 → Calls C1.P f (.slice (some ⟨g, 0, none⟩) l.length cap :: vs).toArray w fun e w' => e = .returned (.slice (some ⟨g, 0, none⟩) r.length cap) ∧ ∃ q, ∃ rest : List Int, r.length + rest.length = l.length ∧ w' = putRow (Value.int .i64) (Sort.ahead w q) g 0 (r ++ rest).toArray) :
    EatSl C1 f 3 1 (l.map dI) xs (fun ds => ds = r.map dI) := by
  intro O w v css us hs hb hO hr hk hg hus
  obtain rfl := hxs O w us hus
  obtain rfl := ints_cs hr
  refine ⟨hrun _ _, ?_⟩
  have hs1 := ints_sl.1 hs
  rcases hs1.shape with ⟨rfl, rfl⟩ | ⟨g, cap, rfl, hc⟩
  · refine (hnil rfl w).mono ?_
    rintro e w' ⟨rfl, rfl⟩
    have : r = [] := List.eq_nil_of_length_eq_zero (by simpa using hrl)
    subst this
    exact ⟨_, _, [], rfl, rfl, Sl.nil _ _ _ _, fun b hb => (by cases hb), by simp [RepCss], by simp, Tch.refl _ _⟩
  · have hcm : cap ≤ 9223372036854775807 := by
      rcases hs1.2 with ⟨h1, _⟩ | ⟨g', cap', cur, h1, _, _, _, hm, _⟩
      · cases h1
      · cases h1; unfold maxLen at hm; omega
    refine (hmem g cap w hs1.holds1 hc hcm).mono ?_
    rintro e w' ⟨rfl, q, rest, hrl2, rfl⟩
    obtain ⟨h1, h2⟩ := hs1.put1 (r ++ rest).toArray (by simp; omega) r.length hrl q
    have ht : (r ++ rest).toArray.toList.take r.length = r := by simp
    rw [ht] at h1
    exact ⟨_, _, r.map fun n => [Value.int .i64 n], rfl, rfl, ints_sl.2 h1, fun b hb => .inl hb, css_ints r, css_row r, h2⟩
theorem reps_nil_eq {O : List Nat} {w : World} {us : List Value} (h : Reps O w [] us) : us = [] := reps_inv0 h
theorem compact_len (l : List Int) : (Lib.compact l).length ≤ l.length := by
  unfold Lib.compact Lib.compactUpTo
  rw [List.length_map]
  have := List.length_filter_le (Lib.keeps l.toArray) (List.range l.length)
  rwa [List.length_range] at this
theorem compact_eat (l : List Int) (hl : l.length ≤ 9223372036854775807) : EatSl C1 56 3 1 (l.map dI) [] (fun ds => ds = (Lib.compact l).map dI) :=
  eat_of (vs := []) (fun O w us h => reps_nil_eq h) (compact_len l) (fun us w => enters_of Tryz.func56 (by kernel_rfl) rfl us w)
    (fun _ w => AnyG.slices_Compact_int_empty Tryz.compactI none 0 w)
    (fun g cap w hH hc hm => (AnyG.slices_Compact_int Tryz.compactI g 0 cap l w hH hl hc).mono fun e w' ⟨h1, q, h2⟩ => ⟨h1, q, List.replicate (l.length - (Lib.compact l).length) 0, by have := compact_len l; simp; omega, h2⟩)
theorem delete_eat (l : List Int) (i : Nat) (hi : i < l.length) : EatSl C1 36 3 1 (l.map dI) [.int .i64 i, .int .i64 ((i : Int) + 1)] (fun ds => ds = (l.eraseIdx i).map dI) := by
  have he : l.eraseIdx i = l.take i ++ l.drop (i + 1) := List.eraseIdx_eq_take_drop_succ l i
  have hel : (l.eraseIdx i).length = l.length - 1 := by rw [List.length_eraseIdx]; split <;> omega
  refine eat_of (vs := [.int .i64 i, .int .i64 ((i : Int) + 1)]) (fun O w us h => ?_) (by omega) (fun us w => enters_of Tryz.func36 (by kernel_rfl) rfl us w)
    (fun h w => by subst h; simp at hi) (fun g cap w hH hc hm => ?_)
  · obtain ⟨v, vs, rfl, h1, h2⟩ := reps_inv h
    obtain ⟨v2, vs2, rfl, h3, h4⟩ := reps_inv h2
    obtain rfl := reps_inv0 h4
    rw [rep_int h1, rep_int h3]
  · have := AnyG.slices_Delete_int Tryz.deleteI g 0 cap i (i + 1) l w hH hc hm (by omega) (by omega)
    refine this.mono ?_
    rintro e w' ⟨h1, q, h2⟩
    refine ⟨?_, q, List.replicate (i + 1 - i) 0, ?_, ?_⟩
    · rw [h1, hel]; congr 2; omega
    · rw [hel, List.length_replicate]; omega
    · rw [h2, he]
end Go.Proofs.YtmkbgbnehokmmaaGreat

namespace Go.Gr
open Go.Lib in
theorem compact_inv (d : Array Int) (hd : ∀ i j, i ≤ j → j < d.size → d[i]! ≤ d[j]!) : ∀ m, m ≤ d.size → (compactUpTo d m).Pairwise (· < ·) ∧ ∀ x, x ∈ compactUpTo d m ↔ ∃ j, j < m ∧ x = d[j]! := by
  intro m
  induction m with
  | zero => intro _; simp [compactUpTo]
  | succ m ih =>
    intro hm
    obtain ⟨h1, h2⟩ := ih (by omega)
    rw [compactUpTo_succ]
    cases hk : keeps d m with
    | true =>
      rw [if_pos rfl]
      refine ⟨List.pairwise_append.2 ⟨h1, by simp, fun a ha b hb => ?_⟩, fun x => ?_⟩
      · simp only [List.mem_singleton] at hb
        subst hb
        obtain ⟨j, hj, rfl⟩ := (h2 a).1 ha
        simp only [keeps, decide_eq_true_eq] at hk
        have g1 := hd j (m - 1) (by omega) (by omega)
        have g2 := hd (m - 1) m (by omega) (by omega)
        have : d[m]! ≠ d[m - 1]! := hk.resolve_left (by omega)
        omega
      · rw [List.mem_append, h2, List.mem_singleton]
        constructor
        · rintro (⟨j, hj, rfl⟩ | rfl)
          · exact ⟨j, by omega, rfl⟩
          · exact ⟨m, by omega, rfl⟩
        · rintro ⟨j, hj, rfl⟩
          by_cases e : j = m
          · subst e; exact .inr rfl
          · exact .inl ⟨j, by omega, rfl⟩
    | false =>
      simp only [Bool.false_eq_true, if_false, List.append_nil]
      refine ⟨h1, fun x => ?_⟩
      rw [h2]
      simp only [keeps, decide_eq_false_iff_not, not_or, Classical.not_not] at hk
      constructor
      · rintro ⟨j, hj, rfl⟩; exact ⟨j, by omega, rfl⟩
      · rintro ⟨j, hj, rfl⟩
        by_cases e : j = m
        · subst e; exact ⟨j - 1, by omega, hk.2⟩
        · exact ⟨j, by omega, rfl⟩
/-- a list's numbers, rising, each once -/
def setOf (l : List Int) : List Int := Lib.compact (l.mergeSort fun x y => decide (x ≤ y))
theorem setOf_spec (l : List Int) : (setOf l).Pairwise (· < ·) ∧ ∀ x, x ∈ setOf l ↔ x ∈ l := by
  have hp := List.mergeSort_perm l fun x y => decide (x ≤ y)
  have hs : (l.mergeSort fun x y => decide (x ≤ y)).Pairwise (fun x y => decide (x ≤ y) = true) := List.pairwise_mergeSort (by intro a b c; simp; omega) (by intro a b; simp; omega) l
  generalize hz : (l.mergeSort fun x y => decide (x ≤ y)) = z at hp hs
  have hd : ∀ i j, i ≤ j → j < z.toArray.size → z.toArray[i]! ≤ z.toArray[j]! := by
    intro i j hij hj
    have hj' : j < z.length := by simpa using hj
    rw [getElem!_pos z.toArray j hj, getElem!_pos z.toArray i (by omega)]
    by_cases e : i = j
    · subst e; exact Int.le_refl _
    · have := List.pairwise_iff_getElem.1 hs i j (by omega) hj' (by omega)
      simpa using this
  obtain ⟨h1, h2⟩ := compact_inv z.toArray hd z.length (by simp)
  unfold setOf Lib.compact
  rw [hz]
  refine ⟨h1, fun x => ?_⟩
  rw [h2, ← hp.mem_iff, List.mem_iff_getElem]
  constructor
  · rintro ⟨j, hj, rfl⟩
    refine ⟨j, hj, ?_⟩
    rw [getElem!_pos z.toArray j (by simpa using hj)]; simp
  · rintro ⟨j, hj, rfl⟩
    refine ⟨j, hj, ?_⟩
    rw [getElem!_pos z.toArray j (by simpa using hj)]; simp
end Go.Gr
namespace Go.Proofs.YtmkbgbnehokmmaaGreat
open Go.Sx Go.RowKit Go.Reg Go.Gr

set_option maxRecDepth 100000
theorem setOf_len (l : List Int) : (setOf l).length ≤ l.length := by
  have := compact_len (l.mergeSort fun x y => decide (x ≤ y))
  rwa [List.length_mergeSort] at this
def pl_sof : List (Nat × Plan) := []
def G_sof : List FuncId := []
theorem cok_sof : codeOk Tryz.prog G_sof pl_sof (Tryz.f29.body.getD .skip) = true := by kernel_rfl
theorem run_sof (vs : Array Value) (w : World) : (callFunc 29 vs).run C1.P w = .ok (.enter 29 vs) w := by kernel_rfl
theorem of_mksl (l : List Int) (hl : l.length ≤ 4294967296) : MakeSl C1 29 [dIs l] 3 1 (fun ds => ds = (setOf l).map dI) := by
  refine mksl_of c1_ok (pl := pl_sof) (G := G_sof) Tryz.func29 rfl Tryz.ntmps29 run_sof cok_sof (by simp) ?_
  (conv => whnf)
  (repeat' ((first | refine ord_ok (by (conv => whnf); (repeat' ((first | refine call_eq rfl (values_pure l) ?_ | refine ify ?_ | refine ifn ?_ | refine i6 ?_ | refine ati ?_ | refine mst ?_ | refine rmd ?_ | refine ibo (fun _ => ?_) (fun _ => ?_)) <;> conv => whnf)); (all_goals (repeat' (first | exact trivial | exact rfl | refine And.intro ?_ ?_)))) ?_ | refine call_eq rfl (values_pure l) ?_ | refine ify ?_ | refine ifn ?_ | refine i6 ?_ | refine ati ?_ | refine mst ?_ | refine rmd ?_ | refine ibo (fun _ => ?_) (fun _ => ?_)) <;> conv => whnf))
  refine call_mksl 29 rfl rfl (sorted_mksl l hl) ?_; rintro ds rfl
  (conv => whnf)
  refine call_eat rfl rfl (compact_eat (l.mergeSort fun x y => decide (x ≤ y)) (by rw [List.length_mergeSort]; omega)) ?_; rintro ds rfl
  ((conv => whnf); repeat' ((first | refine odw ?_ | refine ify ?_ | refine ifn ?_ | refine i6 ?_ | refine ati ?_ | refine mst ?_ | refine rmd ?_ | refine ibo (fun _ => ?_) (fun _ => ?_)) <;> conv => whnf))
  exact ⟨rfl, rfl, rfl⟩
theorem of_pure (l : List Int) (hl : l.length ≤ 4294967296) : Pure C1 29 [dIs l] (fun y => y = dIs (setOf l)) := by
  refine pure_of c1_ok (pl := pl_sof) (G := G_sof) Tryz.func29 rfl Tryz.ntmps29 run_sof cok_sof (by simp) ?_
  (conv => whnf)
  (repeat' ((first | refine ord_ok (by (conv => whnf); (repeat' ((first | refine call_eq rfl (values_pure l) ?_ | refine ify ?_ | refine ifn ?_ | refine i6 ?_ | refine ati ?_ | refine mst ?_ | refine rmd ?_ | refine ibo (fun _ => ?_) (fun _ => ?_)) <;> conv => whnf)); (all_goals (repeat' (first | exact trivial | exact rfl | refine And.intro ?_ ?_)))) ?_ | refine call_eq rfl (values_pure l) ?_ | refine ify ?_ | refine ifn ?_ | refine i6 ?_ | refine ati ?_ | refine mst ?_ | refine rmd ?_ | refine ibo (fun _ => ?_) (fun _ => ?_)) <;> conv => whnf))
  refine call_mksl 29 rfl rfl (sorted_mksl l hl) ?_; rintro ds rfl
  (conv => whnf)
  refine call_eat rfl rfl (compact_eat (l.mergeSort fun x y => decide (x ≤ y)) (by rw [List.length_mergeSort]; omega)) ?_; rintro ds rfl
  ((conv => whnf); repeat' ((first | refine odw ?_ | refine ify ?_ | refine ifn ?_ | refine i6 ?_ | refine ati ?_ | refine mst ?_ | refine rmd ?_ | refine ibo (fun _ => ?_) (fun _ => ?_)) <;> conv => whnf))
  exact rfl
end Go.Proofs.YtmkbgbnehokmmaaGreat
