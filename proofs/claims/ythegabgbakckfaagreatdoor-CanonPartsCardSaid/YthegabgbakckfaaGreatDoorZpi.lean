/- Merged: Atm Srp Pid. -/
import Derived.Test.YthegabgbakckfaaGreatDoorAts
import Derived.Test.YthegabgbakckfaaGreatDoorSxu
import Derived.Test.YthegabgbakckfaaGreatDoorLsc
import Derived.Test.YthegabgbakckfaaGreatDoorZga
import Derived.Test.YthegabgbakckfaaGreatDoorZpb
import Derived.Test.YthegabgbakckfaaGreatDoorZcp
section
/- slices.Sorted(slices.Values(l)) at ints as an owned slice. -/
namespace Go.Proofs.YthegabgbakckfaaGreatDoor
open Go.RowKit Go.Shelf Go.Sx Go.Reg Go.Maps Go.Sort Go.Gr

set_option maxRecDepth 100000
theorem css_ints {O : List Nat} {w : World} : ∀ ss : List Int, RepCss O w (ss.map dI) (ss.map fun n => [Value.int .i64 n])
  | [] => by simp [RepCss]
  | x :: ss => ⟨_, _, rfl, by simp [RepC, dI], css_ints ss⟩
theorem css_row (ss : List Int) : ∀ x ∈ ss.map (fun n => [Value.int .i64 n]), RowOk 1 x := by
  intro x hx
  obtain ⟨n, _, rfl⟩ := List.mem_map.1 hx
  exact ⟨rfl, by simp [Value.oneCell']⟩
theorem css_flat (ss : List Int) : (ss.map fun n => [Value.int .i64 n]).flatMap id = ss.map encZ := by
  induction ss with
  | nil => rfl
  | cons x ss ih => simp only [List.map_cons, List.flatMap_cons, ih]; rfl
theorem sl_of_own {w : World} {base E : Nat} {v : Value} {ss : List Int} (h : w.ownsRow base E 1 v ss.length (ss.map encZ)) : Sl E 1 id w v (ss.map fun n => [Value.int .i64 n]) ∧ ∀ b, v.ownBlock = some b → base ≤ b := by
  unfold Sl
  rw [css_flat, List.length_map]
  rcases h with ⟨h0, ⟨rfl, hn⟩ | ⟨g, cap, cur, rfl, hb, hg, r⟩⟩
  · exact ⟨⟨h0, .inl ⟨rfl, hn⟩⟩, fun b hb => by cases hb⟩
  · exact ⟨⟨h0, .inr ⟨g, cap, cur, rfl, Nat.zero_le _, hg, r⟩⟩, fun b hb' => by simp only [Value.ownBlock, Option.some.injEq] at hb'; subst hb'; exact hb⟩
theorem sorted_mksl (l : List Int) (hl : l.length ≤ 4294967296) : MakeSl C1 67 [.func (.func 132) [] [.ref (dIs l)]] 3 1 (fun ds => ds = (l.mergeSort fun x y => decide (x ≤ y)).map dI) := by
  intro O w us hO hg hr
  obtain ⟨v, vs, rfl, h1, h2⟩ := reps_inv hr
  obtain rfl := reps_inv0 h2
  obtain ⟨cs, r, rfl⟩ := h1
  simp only [RepC, RepCss] at r
  obtain ⟨fs, cs', rfl, ⟨c1, c2, rfl, ⟨b, o, c, rfl, hb, hbl, hc, hcell⟩, rfl⟩, rfl⟩ := r
  simp only [dIs, RepC] at hc
  obtain ⟨a, cap, css, rfl, hlc, hcm, hcs, hrow, hd⟩ := hc
  have hv : w.cell? ⟨b, o, none⟩ = some (.slice a l.length cap) := by have := hcell 0 _ rfl; simpa using this
  refine ⟨by kernel_rfl, ?_⟩
  show Calls _ _ #[.func (.func 132) #[] #[.pointer (some ⟨b, o, none⟩)]] w _
  have hseq : SeqK Fence.wide 3 Tryz.prog 132 #[.pointer (some ⟨b, o, none⟩)] (fun ys => ys = l) l.length w := by
    intro k J W hW hJ hJb hY h0
    have hc' : W.cell? ⟨b, o, none⟩ = some (.slice a l.length cap) := (hW.cell (p := ⟨b, o, none⟩) hbl).trans hv
    rcases hd with hd | ⟨b2, o2, rfl, hb2, hbl2, hcell2⟩
    · have : l = [] := by simpa using hd
      subst this
      exact values1_nilK Fence.wide 3 trivial rfl k b o cap a J W hc' h0
    · refine values1K Fence.wide 3 trivial rfl (by omega) k b o w.heap.size b2 o2 cap l (by omega) hbl2 w J hJb hY W hc' ?_ h0
      intro j hj
      have hf : ∀ (l : List Int) (css : List (List Value)), RepCss O w (l.map dI) css → css.flatten = l.map (Value.int .i64) := by
        intro l
        induction l with
        | nil => intro css h; simp only [List.map_nil, RepCss] at h; subst h; rfl
        | cons x l ih =>
          intro css h
          simp only [List.map_cons, RepCss, dI, RepC] at h
          obtain ⟨_, c2, rfl, rfl, h⟩ := h
          simp only [List.flatten_cons, ih c2 h]; rfl
      exact hcell2 j _ (by rw [hf l css hcs, List.getElem?_map, List.getElem?_eq_getElem hj]; rfl)
  have := sortedK_in Tryz.sortedI Fence.wide 6 trivial trivial trivial trivial rfl (by omega) (sortsIn_wide _) (enters_of Tryz.func131 (by kernel_rfl) rfl) 132 #[.pointer (some ⟨b, o, none⟩)] trivial (enters_of Tryz.func132 (by kernel_rfl) rfl)
    (fun ys => ys = l) l.length (by unfold maxLen; omega) (by omega) w (fun ss h => Nat.le_of_eq (by rw [h])) hseq
  refine (callsIn_wide.1 this).mono ?_
  rintro e w' ⟨v, ss, rfl, rfl, hown, _, hbel⟩
  rw [← List.length_mergeSort (le := fun x y => decide (x ≤ y))] at hown
  obtain ⟨g1, g2⟩ := sl_of_own hown
  exact ⟨v, _, _, rfl, rfl, g1, g2, css_ints _, css_row _, ⟨hbel.os, hbel.tape, hbel.output, hbel.size, fun k hk _ => hbel.block k hk⟩⟩
end Go.Proofs.YthegabgbakckfaaGreatDoor
end

section
/- slices.Compact, slices.Delete at an owned slice of ints, told for the engine. · sets: Of. -/
namespace Go.Reg
open Go Go.RowKit Go.Sort Go.Proofs
section
variable {E : Nat} {w : World} {l : List Int} {g cap : Nat}
theorem flat_one1 (l : List Int) : l.flatMap (fun n => [Value.int .i64 n]) = l.map (Value.int .i64) := by
  induction l with
  | nil => rfl
  | cons x l ih => simp [ih]
theorem Sl.holds1 (h : Sl E 1 (fun n : Int => [Value.int .i64 n]) w (.slice (some ⟨g, 0, none⟩) l.length cap) l) : Go.Sort.Holds (Value.int .i64) w g 0 l.toArray := by
  intro j hj
  have hj' : j < l.length := by simpa using hj
  have hx : l[j]? = some l.toArray[j]! := by rw [getElem!_pos l.toArray j hj]; simp [hj']
  have hc := Sl.cells (enc := fun n : Int => [Value.int .i64 n]) (k := 1) (fun _ => rfl) h rfl hx (j := 0) (u := Value.int .i64 l.toArray[j]!) rfl
  refine ⟨by simpa using hc, ?_⟩
  rcases h.2 with ⟨h1, _⟩ | ⟨g', cap', cur, h1, _, hg, _⟩
  · cases h1
  · cases h1
    simp [World.frozen?, hg]
theorem Sl.put1 (h : Sl E 1 (fun n : Int => [Value.int .i64 n]) w (.slice (some ⟨g, 0, none⟩) l.length cap) l) (d : Array Int) (hd : d.size = l.length) (m : Nat) (hm : m ≤ l.length) (q : Nat) :
    Sl E 1 (fun n : Int => [Value.int .i64 n]) (putRow (Value.int .i64) (Sort.ahead w q) g 0 d) (.slice (some ⟨g, 0, none⟩) m cap) (d.toList.take m) ∧ Tch [g] w (putRow (Value.int .i64) (Sort.ahead w q) g 0 d) := by
  have hlm : (d.toList.take m).length = m := by rw [List.length_take, Array.length_toList]; omega
  constructor
  · unfold Sl
    rw [flat_one1]
    refine ⟨by simp, ?_⟩
    rcases h.2 with ⟨h1, _⟩ | ⟨g', cap', cur, h1, h0, hg, hc, hmx, hs, ht⟩
    · cases h1
    · cases h1
      refine .inr ⟨g, cap, putCells (Value.int .i64) 0 d cur, by rw [hlm], Nat.zero_le _, ?_, by rw [hlm]; omega, hmx, by simp [putCells, hs], ?_⟩
      · simp [putRow, mapBlock, Sort.ahead, Array.getElem?_modify, hg, onCells]
      · rw [hlm]
        apply List.ext_getElem?
        intro t
        rw [List.getElem?_take, List.getElem?_map, List.getElem?_take]
        split
        · rename_i hlt
          have h1 : t < cur.size := by omega
          have h2 : t < d.size := by omega
          have h3 : t < m := by omega
          simp [putCells, h1, h2, h3]
        · rename_i hlt
          have h3 : ¬ t < m := by omega
          simp [h3]
  · refine ⟨rfl, rfl, rfl, ?_, ?_⟩
    · simp [putRow, mapBlock, Sort.ahead]
    · intro j hj hn
      have hne : g ≠ j := fun e => hn (by simp [e])
      simp [putRow, mapBlock, Sort.ahead, Array.getElem?_modify, hne]
end
end Go.Reg
namespace Go.Proofs.YthegabgbakckfaaGreatDoor
open Go.RowKit Go.Shelf Go.Sx Go.Reg Go.Sort Go.Gr Go.Proofs

set_option maxRecDepth 100000
theorem ints_cs {O : List Nat} {w : World} : ∀ {l : List Int} {css : List (List Value)}, RepCss O w (l.map dI) css → css = l.map (fun n => [Value.int .i64 n])
  | [], css, h => by simpa only [List.map_nil, RepCss] using h
  | e :: l, css, h => by
    simp only [List.map_cons, RepCss, dI, RepC] at h
    obtain ⟨c1, c2, rfl, rfl, h⟩ := h
    rw [ints_cs h]; rfl
theorem ints_sl {E : Nat} {w : World} {v : Value} {l : List Int} : Sl E 1 id w v (l.map fun n => [Value.int .i64 n]) ↔ Sl E 1 (fun n : Int => [Value.int .i64 n]) w v l := by
  unfold Sl
  rw [List.length_map, List.flatMap_map]
  exact Iff.rfl
/-- between the shelf's words and 'EatSl' -/
theorem eat_of {f : FuncId} {l : List Int} {xs : List Da} {r : List Int} {vs : List Value} (hxs : ∀ (O : List Nat) (w : World) (us : List Value), Reps O w xs us → us = vs) (hrl : r.length ≤ l.length)
    (hrun : ∀ (us : Array Value) (w : World), (callFunc f us).run C1.P w = .ok (.enter f us) w)
    (hnil : l = [] → ∀ w : World, Calls C1.P f (.slice none 0 0 :: vs).toArray w fun e w' => e = .returned (.slice none 0 0) ∧ w' = w)
    (hmem : ∀ (g cap : Nat) (w : World), Go.Sort.Holds (Value.int .i64) w g 0 l.toArray → l.length ≤ cap → cap ≤ 9223372036854775807 → Calls C1.P f (.slice (some ⟨g, 0, none⟩) l.length cap :: vs).toArray w fun e w' => e = .returned (.slice (some ⟨g, 0, none⟩) r.length cap) ∧ ∃ q, ∃ rest : List Int, r.length + rest.length = l.length ∧ w' = putRow (Value.int .i64) (Sort.ahead w q) g 0 (r ++ rest).toArray) :
    EatSl C1 f 3 1 (l.map dI) xs (fun ds => ds = r.map dI) := by
  intro O w v css us hs hb hO hr hk hg hus
  obtain rfl := hxs O w us hus
  obtain rfl := ints_cs hr
  refine ⟨hrun _ _, ?_⟩
  have hs1 := ints_sl.1 hs
  rcases hs1.shape with ⟨rfl, rfl⟩ | ⟨g, cap, rfl, hc⟩
  · refine (hnil rfl w).mono ?_
    rintro e w' ⟨rfl, rfl⟩
    have : r = [] := List.eq_nil_of_length_eq_zero (by simpa using hrl)
    subst this
    exact ⟨_, _, [], rfl, rfl, Sl.nil _ _ _ _, fun b hb => (by cases hb), by simp [RepCss], by simp, Tch.refl _ _⟩
  · have hcm : cap ≤ 9223372036854775807 := by
      rcases hs1.2 with ⟨h1, _⟩ | ⟨g', cap', cur, h1, _, _, _, hm, _⟩
      · cases h1
      · cases h1; unfold maxLen at hm; omega
    refine (hmem g cap w hs1.holds1 hc hcm).mono ?_
    rintro e w' ⟨rfl, q, rest, hrl2, rfl⟩
    obtain ⟨h1, h2⟩ := hs1.put1 (r ++ rest).toArray (by simp; omega) r.length hrl q
    have ht : (r ++ rest).toArray.toList.take r.length = r := by simp
    rw [ht] at h1
    exact ⟨_, _, r.map fun n => [Value.int .i64 n], rfl, rfl, ints_sl.2 h1, fun b hb => .inl hb, css_ints r, css_row r, h2⟩
theorem reps_nil_eq {O : List Nat} {w : World} {us : List Value} (h : Reps O w [] us) : us = [] := reps_inv0 h
theorem compact_len (l : List Int) : (Lib.compact l).length ≤ l.length := by
  unfold Lib.compact Lib.compactUpTo
  rw [List.length_map]
  have := List.length_filter_le (Lib.keeps l.toArray) (List.range l.length)
  rwa [List.length_range] at this
theorem compact_eat (l : List Int) (hl : l.length ≤ 9223372036854775807) : EatSl C1 100 3 1 (l.map dI) [] (fun ds => ds = (Lib.compact l).map dI) :=
  eat_of (vs := []) (fun O w us h => reps_nil_eq h) (compact_len l) (fun us w => enters_of Tryz.func100 (by kernel_rfl) rfl us w)
    (fun _ w => AnyG.slices_Compact_int_empty Tryz.compactI none 0 w)
    (fun g cap w hH hc hm => (AnyG.slices_Compact_int Tryz.compactI g 0 cap l w hH hl hc).mono fun e w' ⟨h1, q, h2⟩ => ⟨h1, q, List.replicate (l.length - (Lib.compact l).length) 0, by have := compact_len l; simp; omega, h2⟩)
theorem delete_eat (l : List Int) (i : Nat) (hi : i < l.length) : EatSl C1 71 3 1 (l.map dI) [.int .i64 i, .int .i64 ((i : Int) + 1)] (fun ds => ds = (l.eraseIdx i).map dI) := by
  have he : l.eraseIdx i = l.take i ++ l.drop (i + 1) := List.eraseIdx_eq_take_drop_succ l i
  have hel : (l.eraseIdx i).length = l.length - 1 := by rw [List.length_eraseIdx]; split <;> omega
  refine eat_of (vs := [.int .i64 i, .int .i64 ((i : Int) + 1)]) (fun O w us h => ?_) (by omega) (fun us w => enters_of Tryz.func71 (by kernel_rfl) rfl us w)
    (fun h w => by subst h; simp at hi) (fun g cap w hH hc hm => ?_)
  · obtain ⟨v, vs, rfl, h1, h2⟩ := reps_inv h
    obtain ⟨v2, vs2, rfl, h3, h4⟩ := reps_inv h2
    obtain rfl := reps_inv0 h4
    rw [rep_int h1, rep_int h3]
  · have := AnyG.slices_Delete_int Tryz.deleteI g 0 cap i (i + 1) l w hH hc hm (by omega) (by omega)
    refine this.mono ?_
    rintro e w' ⟨h1, q, h2⟩
    refine ⟨?_, q, List.replicate (i + 1 - i) 0, ?_, ?_⟩
    · rw [h1, hel]; congr 2; omega
    · rw [hel, List.length_replicate]; omega
    · rw [h2, he]
end Go.Proofs.YthegabgbakckfaaGreatDoor

namespace Go.Gr
open Go.Lib in
theorem compact_inv (d : Array Int) (hd : ∀ i j, i ≤ j → j < d.size → d[i]! ≤ d[j]!) : ∀ m, m ≤ d.size → (compactUpTo d m).Pairwise (· < ·) ∧ ∀ x, x ∈ compactUpTo d m ↔ ∃ j, j < m ∧ x = d[j]! := by
  intro m
  induction m with
  | zero => intro _; simp [compactUpTo]
  | succ m ih =>
    intro hm
    obtain ⟨h1, h2⟩ := ih (by omega)
    rw [compactUpTo_succ]
    cases hk : keeps d m with
    | true =>
      rw [if_pos rfl]
      refine ⟨List.pairwise_append.2 ⟨h1, by simp, fun a ha b hb => ?_⟩, fun x => ?_⟩
      · simp only [List.mem_singleton] at hb
        subst hb
        obtain ⟨j, hj, rfl⟩ := (h2 a).1 ha
        simp only [keeps, decide_eq_true_eq] at hk
        have g1 := hd j (m - 1) (by omega) (by omega)
        have g2 := hd (m - 1) m (by omega) (by omega)
        have : d[m]! ≠ d[m - 1]! := hk.resolve_left (by omega)
        omega
      · rw [List.mem_append, h2, List.mem_singleton]
        constructor
        · rintro (⟨j, hj, rfl⟩ | rfl)
          · exact ⟨j, by omega, rfl⟩
          · exact ⟨m, by omega, rfl⟩
        · rintro ⟨j, hj, rfl⟩
          by_cases e : j = m
          · subst e; exact .inr rfl
          · exact .inl ⟨j, by omega, rfl⟩
    | false =>
      simp only [Bool.false_eq_true, if_false, List.append_nil]
      refine ⟨h1, fun x => ?_⟩
      rw [h2]
      simp only [keeps, decide_eq_false_iff_not, not_or, Classical.not_not] at hk
      constructor
      · rintro ⟨j, hj, rfl⟩; exact ⟨j, by omega, rfl⟩
      · rintro ⟨j, hj, rfl⟩
        by_cases e : j = m
        · subst e; exact ⟨j - 1, by omega, hk.2⟩
        · exact ⟨j, by omega, rfl⟩
/-- a list's numbers, rising, each once -/
def setOf (l : List Int) : List Int := Lib.compact (l.mergeSort fun x y => decide (x ≤ y))
theorem setOf_spec (l : List Int) : (setOf l).Pairwise (· < ·) ∧ ∀ x, x ∈ setOf l ↔ x ∈ l := by
  have hp := List.mergeSort_perm l fun x y => decide (x ≤ y)
  have hs : (l.mergeSort fun x y => decide (x ≤ y)).Pairwise (fun x y => decide (x ≤ y) = true) := List.pairwise_mergeSort (by intro a b c; simp; omega) (by intro a b; simp; omega) l
  generalize hz : (l.mergeSort fun x y => decide (x ≤ y)) = z at hp hs
  have hd : ∀ i j, i ≤ j → j < z.toArray.size → z.toArray[i]! ≤ z.toArray[j]! := by
    intro i j hij hj
    have hj' : j < z.length := by simpa using hj
    rw [getElem!_pos z.toArray j hj, getElem!_pos z.toArray i (by omega)]
    by_cases e : i = j
    · subst e; exact Int.le_refl _
    · have := List.pairwise_iff_getElem.1 hs i j (by omega) hj' (by omega)
      simpa using this
  obtain ⟨h1, h2⟩ := compact_inv z.toArray hd z.length (by simp)
  unfold setOf Lib.compact
  rw [hz]
  refine ⟨h1, fun x => ?_⟩
  rw [h2, ← hp.mem_iff, List.mem_iff_getElem]
  constructor
  · rintro ⟨j, hj, rfl⟩
    refine ⟨j, hj, ?_⟩
    rw [getElem!_pos z.toArray j (by simpa using hj)]; simp
  · rintro ⟨j, hj, rfl⟩
    refine ⟨j, hj, ?_⟩
    rw [getElem!_pos z.toArray j (by simpa using hj)]; simp
end Go.Gr
namespace Go.Proofs.YthegabgbakckfaaGreatDoor
open Go.Sx Go.RowKit Go.Reg Go.Gr

set_option maxRecDepth 100000
theorem setOf_len (l : List Int) : (setOf l).length ≤ l.length := by
  have := compact_len (l.mergeSort fun x y => decide (x ≤ y))
  rwa [List.length_mergeSort] at this
def pl_sof : List (Nat × Plan) := []
def G_sof : List FuncId := []
theorem cok_sof : codeOk Tryz.prog G_sof pl_sof (Tryz.f110.body.getD .skip) = true := by kernel_rfl
theorem run_sof (vs : Array Value) (w : World) : (callFunc 110 vs).run C1.P w = .ok (.enter 110 vs) w := by kernel_rfl
theorem of_mksl (l : List Int) (hl : l.length ≤ 4294967296) : MakeSl C1 110 [dIs l] 3 1 (fun ds => ds = (setOf l).map dI) := by
  refine mksl_of c1_ok (pl := pl_sof) (G := G_sof) Tryz.func110 rfl Tryz.ntmps110 run_sof cok_sof (by simp) ?_
  (conv => whnf)
  (repeat' ((first | refine ord_ok (by (conv => whnf); (repeat' ((first | refine call_eq rfl (values_pure l) ?_ | refine ify ?_ | refine ifn ?_ | refine i6 ?_ | refine ati ?_ | refine mst ?_ | refine rmd ?_ | refine ibo (fun _ => ?_) (fun _ => ?_)) <;> conv => whnf)); (all_goals (repeat' (first | exact trivial | exact rfl | refine And.intro ?_ ?_)))) ?_ | refine call_eq rfl (values_pure l) ?_ | refine ify ?_ | refine ifn ?_ | refine i6 ?_ | refine ati ?_ | refine mst ?_ | refine rmd ?_ | refine ibo (fun _ => ?_) (fun _ => ?_)) <;> conv => whnf))
  refine call_mksl 29 rfl rfl (sorted_mksl l hl) ?_; rintro ds rfl
  (conv => whnf)
  refine call_eat rfl rfl (compact_eat (l.mergeSort fun x y => decide (x ≤ y)) (by rw [List.length_mergeSort]; omega)) ?_; rintro ds rfl
  ((conv => whnf); repeat' ((first | refine odw ?_ | refine ify ?_ | refine ifn ?_ | refine i6 ?_ | refine ati ?_ | refine mst ?_ | refine rmd ?_ | refine ibo (fun _ => ?_) (fun _ => ?_)) <;> conv => whnf))
  exact ⟨rfl, rfl, rfl⟩
theorem of_pure (l : List Int) (hl : l.length ≤ 4294967296) : Pure C1 110 [dIs l] (fun y => y = dIs (setOf l)) := by
  refine pure_of c1_ok (pl := pl_sof) (G := G_sof) Tryz.func110 rfl Tryz.ntmps110 run_sof cok_sof (by simp) ?_
  (conv => whnf)
  (repeat' ((first | refine ord_ok (by (conv => whnf); (repeat' ((first | refine call_eq rfl (values_pure l) ?_ | refine ify ?_ | refine ifn ?_ | refine i6 ?_ | refine ati ?_ | refine mst ?_ | refine rmd ?_ | refine ibo (fun _ => ?_) (fun _ => ?_)) <;> conv => whnf)); (all_goals (repeat' (first | exact trivial | exact rfl | refine And.intro ?_ ?_)))) ?_ | refine call_eq rfl (values_pure l) ?_ | refine ify ?_ | refine ifn ?_ | refine i6 ?_ | refine ati ?_ | refine mst ?_ | refine rmd ?_ | refine ibo (fun _ => ?_) (fun _ => ?_)) <;> conv => whnf))
  refine call_mksl 29 rfl rfl (sorted_mksl l hl) ?_; rintro ds rfl
  (conv => whnf)
  refine call_eat rfl rfl (compact_eat (l.mergeSort fun x y => decide (x ≤ y)) (by rw [List.length_mergeSort]; omega)) ?_; rintro ds rfl
  ((conv => whnf); repeat' ((first | refine odw ?_ | refine ify ?_ | refine ifn ?_ | refine i6 ?_ | refine ati ?_ | refine mst ?_ | refine rmd ?_ | refine ibo (fun _ => ?_) (fun _ => ?_)) <;> conv => whnf))
  exact rfl
end Go.Proofs.YthegabgbakckfaaGreatDoor
end

section
/- perm: Id, times, Of. -/
namespace Go.Gr
open Go.Proofs.YthegabgbakckfaaGreatDoor
theorem idL_succ (i : Nat) : idL (i + 1) = idL i ++ [(i : Int)] := by unfold idL; rw [List.range_succ, List.map_append]; rfl
theorem idL_len (n : Nat) : (idL n).length = n := by unfold idL; simp
theorem facN_pos : ∀ n, 0 < facN n
  | 0 => by decide
  | n + 1 => Nat.mul_pos (by omega) (facN_pos n)
theorem perm_ord {n : Nat} {P : List Int} (h : P.Perm (idL n)) : IsOrd n P := ⟨by rw [h.length_eq, idL_len], fun x hx => (idL_ord n).2.1 x (h.mem_iff.1 hx), h.nodup_iff.2 (idL_ord n).2.2⟩
theorem take_perm {L : List Int} {q : Nat} {x : Int} (h : L[q]? = some x) : L.Perm (x :: L.eraseIdx q) := by
  obtain ⟨hk, e⟩ := List.getElem?_eq_some_iff.1 h
  subst e
  conv => lhs; rw [← List.take_append_drop q L, List.drop_eq_getElem_cons hk]
  rw [List.eraseIdx_eq_take_drop_succ]
  exact List.perm_middle
theorem facN_le : ∀ n, n ≤ 8 → facN n ≤ 40320 := by decide
end Go.Gr
namespace Go.Proofs.YthegabgbakckfaaGreatDoor
open Go.Sx Go.RowKit Go.Reg Go.Gr

set_option maxRecDepth 100000
theorem int_to {k : IntKind} {e z : Int} {K : Int → Prop} (h : k.wrap e = z) (hK : K z) : ∃ n, k.wrap e = n ∧ K n := ⟨z, h, hK⟩
def pl_pid : List (Nat × Plan) := []
def G_pid : List FuncId := []
theorem cok_pid : codeOk Tryz.prog G_pid pl_pid (Tryz.f46.body.getD .skip) = true := by kernel_rfl
theorem run_pid (vs : Array Value) (w : World) : (callFunc 46 vs).run C1.P w = .ok (.enter 46 vs) w := by kernel_rfl
theorem permid_mksl (n : Nat) (hn : n ≤ 8) : MakeSl C1 46 [.int .i64 n] 3 1 (fun ds => ds = (idL n).map dI) := by
  refine mksl_of c1_ok (pl := pl_pid) (G := G_pid) Tryz.func46 rfl Tryz.ntmps46 run_pid cok_pid (by simp) ?_
  ((conv => whnf); repeat' ((first | refine odw ?_ | refine ify ?_ | refine ifn ?_ | refine i6 ?_ | refine ati ?_ | refine mst ?_ | refine rmd ?_ | refine ibo (fun _ => ?_) (fun _ => ?_)) <;> conv => whnf))
  refine loop_lo (ι := Nat) (fun i => i ≤ n) (fun i => [(4, .d (.int .i64 i)), (3, .own 300), (0, .d (.int .i64 n))]) (fun i => [(300, .slice 3 1 ((idL i).map dI))]) (fun i => n - i) 0 (fun _ => rfl) (Nat.zero_le _) (.own 3 300 3 1 rfl rfl (.refl _ _)) ⟨rfl, rfl, rfl, trivial⟩ ⟨rfl, trivial⟩ ?_
  intro i hi
  refine sxCode_sound c1_ok (G := G_pid) (pl := pl_pid) _ _ _ _ (by kernel_rfl) ?_
  have hil := idL_len i
  by_cases hlt : i < n
  · ((conv => whnf); repeat' ((first | refine odw ?_ | refine ify ?_ | refine ifn ?_ | refine i6 ?_ | refine ati ?_ | refine mst ?_ | refine rmd ?_ | refine ibo (fun _ => ?_) (fun _ => ?_)) <;> conv => whnf))
    exact ⟨i + 1, _, _, by omega, .refl _ _, ⟨rfl, rfl, rfl, trivial⟩, ⟨slice_is (by rw [idL_succ, List.map_append]; rfl), trivial⟩, by omega⟩
  · have : i = n := by omega
    subst this
    ((conv => whnf); repeat' ((first | refine odw ?_ | refine ify ?_ | refine ifn ?_ | refine i6 ?_ | refine ati ?_ | refine mst ?_ | refine rmd ?_ | refine ibo (fun _ => ?_) (fun _ => ?_)) <;> conv => whnf))
    exact ⟨rfl, rfl, rfl⟩
def pl_ptm : List (Nat × Plan) := []
def G_ptm : List FuncId := []
theorem cok_ptm : codeOk Tryz.prog G_ptm pl_ptm (Tryz.f69.body.getD .skip) = true := by kernel_rfl
theorem run_ptm (vs : Array Value) (w : World) : (callFunc 69 vs).run C1.P w = .ok (.enter 69 vs) w := by kernel_rfl
theorem times_pure (n : Nat) (hn : n ≤ 8) : Pure C1 69 [.int .i64 n] (fun y => y = .int .i64 (facN n : Nat)) := by
  refine pure_of c1_ok (pl := pl_ptm) (G := G_ptm) Tryz.func69 rfl Tryz.ntmps69 run_ptm cok_ptm (by simp) ?_
  ((conv => whnf); repeat' ((first | refine odw ?_ | refine ify ?_ | refine ifn ?_ | refine i6 ?_ | refine ati ?_ | refine mst ?_ | refine rmd ?_ | refine ibo (fun _ => ?_) (fun _ => ?_)) <;> conv => whnf))
  refine loop_lo (ι := Nat) (fun i => i + 1 ≤ n ∨ i = 1 ∨ i = n) (fun i => [(4, .d (.int .i64 (i + 1 : Nat))), (3, .d (.int .i64 (facN i : Nat))), (0, .d (.int .i64 n))]) (fun _ => []) (fun i => n + 1 - i) 1 (fun _ => rfl) (.inr (.inl rfl)) (.refl _ _) ⟨rfl, rfl, rfl, trivial⟩ trivial ?_
  intro i hi
  refine sxCode_sound c1_ok (G := G_ptm) (pl := pl_ptm) _ _ _ _ (by kernel_rfl) ?_
  by_cases hlt : i + 1 ≤ n
  · have hf := facN_le (i + 1) (by omega)
    have hm : (facN i : Int) * ((i + 1 : Nat) : Int) = ((facN (i + 1) : Nat) : Int) := by
      rw [show facN (i + 1) = (i + 1) * facN i from rfl, Int.natCast_mul, Int.mul_comm]
    have hw : IntKind.i64.wrap ((facN i : Int) * ((i + 1 : Nat) : Int)) = ((facN (i + 1) : Nat) : Int) := by
      rw [hm]; exact wrap64_in ⟨by omega, by omega⟩
    (conv => whnf)
    (repeat' ((first | refine ord_ok (by (conv => whnf); (repeat' ((first | refine int_to hw ?_ | refine ify ?_ | refine ifn ?_ | refine i6 ?_ | refine ati ?_ | refine mst ?_ | refine rmd ?_ | refine ibo (fun _ => ?_) (fun _ => ?_)) <;> conv => whnf)); (all_goals (repeat' (first | exact trivial | exact rfl | refine And.intro ?_ ?_)))) ?_ | refine int_to hw ?_ | refine ify ?_ | refine ifn ?_ | refine i6 ?_ | refine ati ?_ | refine mst ?_ | refine rmd ?_ | refine ibo (fun _ => ?_) (fun _ => ?_)) <;> conv => whnf))
    refine ⟨i + 1, _, _, by omega, .refl _ _, ⟨int_is (by omega), rfl, rfl, trivial⟩, trivial, by omega⟩
  · have hi2 : i = n ∨ (i = 1 ∧ n = 0) := by omega
    have : facN i = facN n := by
      rcases hi2 with rfl | ⟨rfl, rfl⟩ <;> rfl
    ((conv => whnf); repeat' ((first | refine odw ?_ | refine ify ?_ | refine ifn ?_ | refine i6 ?_ | refine ati ?_ | refine mst ?_ | refine rmd ?_ | refine ibo (fun _ => ?_) (fun _ => ?_)) <;> conv => whnf))
    exact congrArg (fun z : Nat => Da.int .i64 (z : Int)) this
/-- what Of keeps: c to go, the list so far, what is left, the rank -/
structure OfI (n : Nat) (s : Nat × Int × List Int × List Int × Nat) : Prop where
  z : s.2.1 = (s.1 : Int) - 1
  len : s.2.2.2.1.length = s.1
  all : (s.2.2.1 ++ s.2.2.2.1).Perm (idL n)
  rank : s.2.2.2.2 < facN s.1
def pl_pof : List (Nat × Plan) := []
def G_pof : List FuncId := [69, 70, 46]
theorem cok_pof : codeOk Tryz.prog G_pof pl_pof (Tryz.f23.body.getD .skip) = true := by kernel_rfl
theorem run_pof (vs : Array Value) (w : World) : (callFunc 23 vs).run C1.P w = .ok (.enter 23 vs) w := by kernel_rfl
set_option maxHeartbeats 4000000 in
theorem permof_pure (n r : Nat) (hn : n ≤ 8) (hr : r < facN n) : Pure C1 23 [.int .i64 n, .int .i64 r] (fun y => ∃ b, IsOrd n b ∧ y = .tuple [dIs b, .nili]) := by
  have ht := times_pure n hn
  have hfn := facN_le n hn
  refine pure_of c1_ok (pl := pl_pof) (G := G_pof) Tryz.func23 rfl Tryz.ntmps23 run_pof cok_pof (by simp) ?_
  (conv => whnf)
  (repeat' ((first | refine ord_ok (by (conv => whnf); (repeat' ((first | refine call_eq rfl ht ?_ | refine ify ?_ | refine ifn ?_ | refine i6 ?_ | refine ati ?_ | refine mst ?_ | refine rmd ?_ | refine ibo (fun _ => ?_) (fun _ => ?_)) <;> conv => whnf)); (all_goals (repeat' (first | exact trivial | exact rfl | refine And.intro ?_ ?_)))) ?_ | refine call_eq rfl ht ?_ | refine ify ?_ | refine ifn ?_ | refine i6 ?_ | refine ati ?_ | refine mst ?_ | refine rmd ?_ | refine ibo (fun _ => ?_) (fun _ => ?_)) <;> conv => whnf))
  refine call_mksl 401 rfl rfl (permid_mksl n hn) ?_; rintro ds rfl
  ((conv => whnf); repeat' ((first | refine odw ?_ | refine ify ?_ | refine ifn ?_ | refine i6 ?_ | refine ati ?_ | refine mst ?_ | refine rmd ?_ | refine ibo (fun _ => ?_) (fun _ => ?_)) <;> conv => whnf))
  refine loop_lo (ι := Nat × Int × List Int × List Int × Nat) (OfI n) (fun s => [(8, .d (.int .i64 s.2.1)), (7, .own 401), (6, .own 300), (1, .d (.int .i64 s.2.2.2.2))]) (fun s => [(300, .slice 3 1 (s.2.2.1.map dI)), (401, .slice 3 1 (s.2.2.2.1.map dI))]) (fun s => s.1) (n, (n : Int) - 1, [], idL n, r) (fun _ => rfl) ⟨rfl, idL_len n, .refl _, hr⟩ (.own 6 300 3 1 rfl rfl (.refl _ _)) ⟨rfl, rfl, rfl, rfl, trivial⟩ ⟨rfl, rfl, trivial⟩ ?_
  rintro ⟨c, z, P, L, r⟩ ⟨hz, hL, hall, hrk⟩
  simp only at hz hL hall hrk
  refine sxCode_sound c1_ok (G := G_pof) (pl := pl_pof) _ _ _ _ (by kernel_rfl) ?_
  dsimp only
  have hlen := hall.length_eq
  rw [List.length_append, idL_len] at hlen
  cases c with
  | zero =>
    have : L = [] := List.eq_nil_of_length_eq_zero hL
    subst this
    have hz' : z = -1 := by omega
    subst hz'
    ((conv => whnf); repeat' ((first | refine odw ?_ | refine ify ?_ | refine ifn ?_ | refine i6 ?_ | refine ati ?_ | refine mst ?_ | refine rmd ?_ | refine ibo (fun _ => ?_) (fun _ => ?_)) <;> conv => whnf))
    rw [List.append_nil] at hall
    exact ⟨P, perm_ord hall, rfl⟩
  | succ k =>
    have hz' : z = (k : Int) := by omega
    subst hz'
    have hk := times_pure k (by omega)
    have hfp := facN_pos k
    have hfk := facN_le k (by omega)
    have hdl : (L.map dI).length = k + 1 := by rw [List.length_map]; exact hL
    have hdp : (P.map dI).length = P.length := List.length_map _
    have hq : r / facN k < k + 1 := (Nat.div_lt_iff_lt_mul hfp).2 hrk
    have hq1 : IntKind.i64.wrap ((r : Int).tdiv (facN k : Int)) = ((r / facN k : Nat) : Int) := by
      rw [Int.tdiv_eq_ediv_of_nonneg (by omega), ← Int.natCast_ediv]
      generalize r / facN k = q at hq
      exact wrap64_in ⟨by omega, by omega⟩
    have hr1 : (r : Int).tmod (facN k : Int) = ((r % facN k : Nat) : Int) := by rw [Int.tmod_eq_emod_of_nonneg (by omega), ← Int.natCast_emod]
    have hrm := Nat.mod_lt r hfp
    generalize hQ : r / facN k = q at hq hq1
    generalize hM : r % facN k = m at hr1 hrm
    have hx := List.getElem?_eq_getElem (l := L) (i := q) (by omega)
    generalize L[q]'(by omega) = x at hx
    have hxd : (L.map dI)[q]? = some (.int .i64 x) := by rw [List.getElem?_map, hx]; rfl
    (conv => whnf)
    (repeat' ((first | refine ord_ok (by (conv => whnf); (repeat' ((first | refine call_eq rfl hk ?_ | refine int_to hq1 ?_ | refine el_at (i := q) rfl (by omega) ?_ | refine el_is hxd ?_ | refine ify ?_ | refine ifn ?_ | refine i6 ?_ | refine ati ?_ | refine mst ?_ | refine rmd ?_ | refine ibo (fun _ => ?_) (fun _ => ?_)) <;> conv => whnf)); (all_goals (repeat' (first | exact trivial | exact rfl | refine And.intro ?_ ?_)))) ?_ | refine call_eq rfl hk ?_ | refine int_to hq1 ?_ | refine el_at (i := q) rfl (by omega) ?_ | refine el_is hxd ?_ | refine ify ?_ | refine ifn ?_ | refine i6 ?_ | refine ati ?_ | refine mst ?_ | refine rmd ?_ | refine ibo (fun _ => ?_) (fun _ => ?_)) <;> conv => whnf))
    refine call_eat rfl rfl (delete_eat L q (by omega)) ?_; rintro ds rfl
    ((conv => whnf); repeat' ((first | refine odw ?_ | refine ify ?_ | refine ifn ?_ | refine i6 ?_ | refine ati ?_ | refine mst ?_ | refine rmd ?_ | refine ibo (fun _ => ?_) (fun _ => ?_)) <;> conv => whnf))
    refine ⟨(k, (k : Int) - 1, P ++ [x], L.eraseIdx q, m), _, _, ⟨rfl, ?_, ?_, hrm⟩, .refl _ _, ⟨rfl, rfl, rfl, int_is (by first | exact hr1 | exact hr1.symm), trivial⟩, ⟨slice_is (by rw [List.map_append]; rfl), rfl, trivial⟩, Nat.lt_succ_self k⟩
    · show (L.eraseIdx q).length = k
      rw [List.length_eraseIdx_of_lt (by omega)]; omega
    · show (P ++ [x] ++ L.eraseIdx q).Perm (idL n)
      rw [List.append_assoc]
      exact (List.Perm.append_left P (take_perm hx).symm).trans hall
end Go.Proofs.YthegabgbakckfaaGreatDoor
end
