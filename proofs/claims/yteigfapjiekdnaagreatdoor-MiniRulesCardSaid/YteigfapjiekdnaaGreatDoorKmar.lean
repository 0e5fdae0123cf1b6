/- Merged: Srp Mna Vla Vsb. -/
import Derived.Test.YteigfapjiekdnaaGreatDoorKmaq
import Derived.Test.YteigfapjiekdnaaGreatDoorKmam
import Derived.Test.YteigfapjiekdnaaGreatDoorKman
import Derived.Test.YteigfapjiekdnaaGreatDoorKmal
section
/- slices.Compact, slices.Delete at an owned slice of ints, told for the engine. · sets: Of. -/
namespace Go.Reg
open Go Go.RowKit Go.Sort Go.Proofs
section
variable {E : Nat} {w : World} {l : List Int} {g cap : Nat}
theorem flat_one1 (l : List Int) : l.flatMap (fun n => [Value.int .i64 n]) = l.map (Value.int .i64) := by
  induction l with
  | nil => rfl
  | cons x l ih => simp [ih]
theorem Sl.holds1 (h : Sl E 1 (fun n : Int => [Value.int .i64 n]) w (.slice (some ⟨g, 0, none⟩) l.length cap) l) : Go.Sort.Holds (Value.int .i64) w g 0 l.toArray := by
  intro j hj
  have hj' : j < l.length := by simpa using hj
  have hx : l[j]? = some l.toArray[j]! := by rw [getElem!_pos l.toArray j hj]; simp [hj']
  have hc := Sl.cells (enc := fun n : Int => [Value.int .i64 n]) (k := 1) (fun _ => rfl) h rfl hx (j := 0) (u := Value.int .i64 l.toArray[j]!) rfl
  refine ⟨by simpa using hc, ?_⟩
  rcases h.2 with ⟨h1, _⟩ | ⟨g', cap', cur, h1, _, hg, _⟩
  · cases h1
  · cases h1
    simp [World.frozen?, hg]
theorem Sl.put1 (h : Sl E 1 (fun n : Int => [Value.int .i64 n]) w (.slice (some ⟨g, 0, none⟩) l.length cap) l) (d : Array Int) (hd : d.size = l.length) (m : Nat) (hm : m ≤ l.length) (q : Nat) :
    Sl E 1 (fun n : Int => [Value.int .i64 n]) (putRow (Value.int .i64) (Sort.ahead w q) g 0 d) (.slice (some ⟨g, 0, none⟩) m cap) (d.toList.take m) ∧ Tch [g] w (putRow (Value.int .i64) (Sort.ahead w q) g 0 d) := by
  have hlm : (d.toList.take m).length = m := by rw [List.length_take, Array.length_toList]; omega
  constructor
  · unfold Sl
    rw [flat_one1]
    refine ⟨by simp, ?_⟩
    rcases h.2 with ⟨h1, _⟩ | ⟨g', cap', cur, h1, h0, hg, hc, hmx, hs, ht⟩
    · cases h1
    · cases h1
      refine .inr ⟨g, cap, putCells (Value.int .i64) 0 d cur, by rw [hlm], Nat.zero_le _, ?_, by rw [hlm]; omega, hmx, by simp [putCells, hs], ?_⟩
      · simp [putRow, mapBlock, Sort.ahead, Array.getElem?_modify, hg, onCells]
      · rw [hlm]
        apply List.ext_getElem?
        intro t
        rw [List.getElem?_take, List.getElem?_map, List.getElem?_take]
        split
        · rename_i hlt
          have h1 : t < cur.size := by omega
          have h2 : t < d.size := by omega
          have h3 : t < m := by omega
          simp [putCells, h1, h2, h3]
        · rename_i hlt
          have h3 : ¬ t < m := by omega
          simp [h3]
  · refine ⟨rfl, rfl, rfl, ?_, ?_⟩
    · simp [putRow, mapBlock, Sort.ahead]
    · intro j hj hn
      have hne : g ≠ j := fun e => hn (by simp [e])
      simp [putRow, mapBlock, Sort.ahead, Array.getElem?_modify, hne]
end
end Go.Reg
namespace Go.Proofs.YteigfapjiekdnaaGreatDoor
open Go.RowKit Go.Shelf Go.Sx Go.Reg Go.Sort Go.Gr Go.Proofs

set_option maxRecDepth 100000
theorem ints_cs {O : List Nat} {w : World} : ∀ {l : List Int} {css : List (List Value)}, RepCss O w (l.map dI) css → css = l.map (fun n => [Value.int .i64 n])
  | [], css, h => by simpa only [List.map_nil, RepCss] using h
  | e :: l, css, h => by
    simp only [List.map_cons, RepCss, dI, RepC] at h
    obtain ⟨c1, c2, rfl, rfl, h⟩ := h
    rw [ints_cs h]; rfl
theorem ints_sl {E : Nat} {w : World} {v : Value} {l : List Int} : Sl E 1 id w v (l.map fun n => [Value.int .i64 n]) ↔ Sl E 1 (fun n : Int => [Value.int .i64 n]) w v l := by
  unfold Sl
  rw [List.length_map, List.flatMap_map]
  exact Iff.rfl
/-- between the shelf's words and 'EatSl' -/
theorem eat_of {f : FuncId} {l : List Int} {xs : List Da} {r : List Int} {vs : List Value} (hxs : ∀ (O : List Nat) (w : World) (us : List Value), Reps O w xs us → us = vs) (hrl : r.length ≤ l.length)
    (hrun : ∀ (us : Array Value) (w : World), (callFunc f us).run C1.P w = .ok (.enter f us) w)
    (hnil : l = [] → ∀ w : World, Calls C1.P f (.slice none 0 0 :: vs).toArray w fun e w' => e = .returned (.slice none 0 0) ∧ w' = w)
    (hmem : ∀ (g cap : Nat) (w : World), Go.Sort.Holds (Value.int .i64) w g 0 l.toArray → l.length ≤ cap → cap ≤ 9223372036854775807 → Calls C1.P f (.slice (some ⟨g, 0, none⟩) l.length cap :: vs).toArray w fun e w' => e = .returned (.slice (some ⟨g, 0, none⟩) r.length cap) ∧ ∃ q, ∃ rest : List Int, r.length + rest.length = l.length ∧ w' = putRow (Value.int .i64) (Sort.ahead w q) g 0 (r ++ rest).toArray) :
    EatSl C1 f 3 1 (l.map dI) xs (fun ds => ds = r.map dI) := by
  intro O w v css us hs hb hO hr hk hg hus
  obtain rfl := hxs O w us hus
  obtain rfl := ints_cs hr
  refine ⟨hrun _ _, ?_⟩
  have hs1 := ints_sl.1 hs
  rcases hs1.shape with ⟨rfl, rfl⟩ | ⟨g, cap, rfl, hc⟩
  · refine (hnil rfl w).mono ?_
    rintro e w' ⟨rfl, rfl⟩
    have : r = [] := List.eq_nil_of_length_eq_zero (by simpa using hrl)
    subst this
    exact ⟨_, _, [], rfl, rfl, Sl.nil _ _ _ _, fun b hb => (by cases hb), by simp [RepCss], by simp, Tch.refl _ _⟩
  · have hcm : cap ≤ 9223372036854775807 := by
      rcases hs1.2 with ⟨h1, _⟩ | ⟨g', cap', cur, h1, _, _, _, hm, _⟩
      · cases h1
      · cases h1; unfold maxLen at hm; omega
    refine (hmem g cap w hs1.holds1 hc hcm).mono ?_
    rintro e w' ⟨rfl, q, rest, hrl2, rfl⟩
    obtain ⟨h1, h2⟩ := hs1.put1 (r ++ rest).toArray (by simp; omega) r.length hrl q
    have ht : (r ++ rest).toArray.toList.take r.length = r := by simp
    rw [ht] at h1
    exact ⟨_, _, r.map fun n => [Value.int .i64 n], rfl, rfl, ints_sl.2 h1, fun b hb => .inl hb, css_ints r, css_row r, h2⟩
theorem reps_nil_eq {O : List Nat} {w : World} {us : List Value} (h : Reps O w [] us) : us = [] := reps_inv0 h
theorem compact_len (l : List Int) : (Lib.compact l).length ≤ l.length := by
  unfold Lib.compact Lib.compactUpTo
  rw [List.length_map]
  have := List.length_filter_le (Lib.keeps l.toArray) (List.range l.length)
  rwa [List.length_range] at this
theorem compact_eat (l : List Int) (hl : l.length ≤ 9223372036854775807) : EatSl C1 84 3 1 (l.map dI) [] (fun ds => ds = (Lib.compact l).map dI) :=
  eat_of (vs := []) (fun O w us h => reps_nil_eq h) (compact_len l) (fun us w => enters_of Tryz.func84 (by kernel_rfl) rfl us w)
    (fun _ w => AnyG.slices_Compact_int_empty Tryz.compactI none 0 w)
    (fun g cap w hH hc hm => (AnyG.slices_Compact_int Tryz.compactI g 0 cap l w hH hl hc).mono fun e w' ⟨h1, q, h2⟩ => ⟨h1, q, List.replicate (l.length - (Lib.compact l).length) 0, by have := compact_len l; simp; omega, h2⟩)
end Go.Proofs.YteigfapjiekdnaaGreatDoor

namespace Go.Gr
open Go.Lib in
theorem compact_inv (d : Array Int) (hd : ∀ i j, i ≤ j → j < d.size → d[i]! ≤ d[j]!) : ∀ m, m ≤ d.size → (compactUpTo d m).Pairwise (· < ·) ∧ ∀ x, x ∈ compactUpTo d m ↔ ∃ j, j < m ∧ x = d[j]! := by
  intro m
  induction m with
  | zero => intro _; simp [compactUpTo]
  | succ m ih =>
    intro hm
    obtain ⟨h1, h2⟩ := ih (by omega)
    rw [compactUpTo_succ]
    cases hk : keeps d m with
    | true =>
      rw [if_pos rfl]
      refine ⟨List.pairwise_append.2 ⟨h1, by simp, fun a ha b hb => ?_⟩, fun x => ?_⟩
      · simp only [List.mem_singleton] at hb
        subst hb
        obtain ⟨j, hj, rfl⟩ := (h2 a).1 ha
        simp only [keeps, decide_eq_true_eq] at hk
        have g1 := hd j (m - 1) (by omega) (by omega)
        have g2 := hd (m - 1) m (by omega) (by omega)
        have : d[m]! ≠ d[m - 1]! := hk.resolve_left (by omega)
        omega
      · rw [List.mem_append, h2, List.mem_singleton]
        constructor
        · rintro (⟨j, hj, rfl⟩ | rfl)
          · exact ⟨j, by omega, rfl⟩
          · exact ⟨m, by omega, rfl⟩
        · rintro ⟨j, hj, rfl⟩
          by_cases e : j = m
          · subst e; exact .inr rfl
          · exact .inl ⟨j, by omega, rfl⟩
    | false =>
      simp only [Bool.false_eq_true, if_false, List.append_nil]
      refine ⟨h1, fun x => ?_⟩
      rw [h2]
      simp only [keeps, decide_eq_false_iff_not, not_or, Classical.not_not] at hk
      constructor
      · rintro ⟨j, hj, rfl⟩; exact ⟨j, by omega, rfl⟩
      · rintro ⟨j, hj, rfl⟩
        by_cases e : j = m
        · subst e; exact ⟨j - 1, by omega, hk.2⟩
        · exact ⟨j, by omega, rfl⟩
/-- a list's numbers, rising, each once -/
def setOf (l : List Int) : List Int := Lib.compact (l.mergeSort fun x y => decide (x ≤ y))
theorem setOf_spec (l : List Int) : (setOf l).Pairwise (· < ·) ∧ ∀ x, x ∈ setOf l ↔ x ∈ l := by
  have hp := List.mergeSort_perm l fun x y => decide (x ≤ y)
  have hs : (l.mergeSort fun x y => decide (x ≤ y)).Pairwise (fun x y => decide (x ≤ y) = true) := List.pairwise_mergeSort (by intro a b c; simp; omega) (by intro a b; simp; omega) l
  generalize hz : (l.mergeSort fun x y => decide (x ≤ y)) = z at hp hs
  have hd : ∀ i j, i ≤ j → j < z.toArray.size → z.toArray[i]! ≤ z.toArray[j]! := by
    intro i j hij hj
    have hj' : j < z.length := by simpa using hj
    rw [getElem!_pos z.toArray j hj, getElem!_pos z.toArray i (by omega)]
    by_cases e : i = j
    · subst e; exact Int.le_refl _
    · have := List.pairwise_iff_getElem.1 hs i j (by omega) hj' (by omega)
      simpa using this
  obtain ⟨h1, h2⟩ := compact_inv z.toArray hd z.length (by simp)
  unfold setOf Lib.compact
  rw [hz]
  refine ⟨h1, fun x => ?_⟩
  rw [h2, ← hp.mem_iff, List.mem_iff_getElem]
  constructor
  · rintro ⟨j, hj, rfl⟩
    refine ⟨j, hj, ?_⟩
    rw [getElem!_pos z.toArray j (by simpa using hj)]; simp
  · rintro ⟨j, hj, rfl⟩
    refine ⟨j, hj, ?_⟩
    rw [getElem!_pos z.toArray j (by simpa using hj)]; simp
end Go.Gr
namespace Go.Proofs.YteigfapjiekdnaaGreatDoor
open Go.Sx Go.RowKit Go.Reg Go.Gr

set_option maxRecDepth 100000
theorem setOf_len (l : List Int) : (setOf l).length ≤ l.length := by
  have := compact_len (l.mergeSort fun x y => decide (x ≤ y))
  rwa [List.length_mergeSort] at this
def pl_sof : List (Nat × Plan) := []
def G_sof : List FuncId := []
theorem cok_sof : codeOk Tryz.prog G_sof pl_sof (Tryz.f66.body.getD .skip) = true := by kernel_rfl
theorem run_sof (vs : Array Value) (w : World) : (callFunc 66 vs).run C1.P w = .ok (.enter 66 vs) w := by kernel_rfl
theorem of_pure (l : List Int) (hl : l.length ≤ 4294967296) : Pure C1 66 [dIs l] (fun y => y = dIs (setOf l)) := by
  refine pure_of c1_ok (pl := pl_sof) (G := G_sof) Tryz.func66 rfl Tryz.ntmps66 run_sof cok_sof (by simp) ?_
  (conv => whnf)
  (repeat' ((first | refine ord_ok (by (conv => whnf); (repeat' ((first | refine call_eq rfl (values_pure l) ?_ | refine ify ?_ | refine ifn ?_ | refine i6 ?_ | refine ati ?_ | refine mst ?_ | refine rmd ?_ | refine ibo (fun _ => ?_) (fun _ => ?_)) <;> conv => whnf)); (all_goals (repeat' (first | exact trivial | exact rfl | refine And.intro ?_ ?_)))) ?_ | refine call_eq rfl (values_pure l) ?_ | refine ify ?_ | refine ifn ?_ | refine i6 ?_ | refine ati ?_ | refine mst ?_ | refine rmd ?_ | refine ibo (fun _ => ?_) (fun _ => ?_)) <;> conv => whnf))
  refine call_mksl 29 rfl rfl (sorted_mksl l hl) ?_; rintro ds rfl
  (conv => whnf)
  refine call_eat rfl rfl (compact_eat (l.mergeSort fun x y => decide (x ≤ y)) (by rw [List.length_mergeSort]; omega)) ?_; rintro ds rfl
  ((conv => whnf); repeat' ((first | refine odw ?_ | refine ify ?_ | refine ifn ?_ | refine i6 ?_ | refine ati ?_ | refine mst ?_ | refine rmd ?_ | refine ibo (fun _ => ?_) (fun _ => ?_)) <;> conv => whnf))
  exact rfl
end Go.Proofs.YteigfapjiekdnaaGreatDoor
end

section
/- mini, plain: the sets of a pattern's vertices, the least of their sizes. -/
namespace Go.Gr
open Go.Proofs.YteigfapjiekdnaaGreatDoor
/-- a set with a number more -/
def addS (s : List Int) (n : Int) : List Int := setOf (n :: s)
theorem mem_addS {s : List Int} {n x : Int} : x ∈ addS s n ↔ x = n ∨ x ∈ s := by unfold addS; rw [(setOf_spec _).2, List.mem_cons]
/-- what stands at a place of lists -/
def colS (X : List (List Int)) (i : Nat) : List Int := setOf (X.map fun L => (L[i]?).getD 0)
theorem colS_rise (X : List (List Int)) (i : Nat) : (colS X i).Pairwise (· < ·) := (setOf_spec _).1
theorem mem_colS {X : List (List Int)} {i : Nat} {x : Int} : x ∈ colS X i ↔ ∃ L ∈ X, (L[i]?).getD 0 = x := by unfold colS; rw [(setOf_spec _).2, List.mem_map]
theorem rise_nodup {l : List Int} (h : l.Pairwise (· < ·)) : l.Nodup := h.imp fun h => Int.ne_of_lt h
theorem setOf_rise {l : List Int} (h : l.Pairwise (· < ·)) : setOf l = l := rise_eq (setOf_spec l).1 h (setOf_spec l).2
theorem setOf_nil : setOf [] = [] := setOf_rise List.Pairwise.nil
theorem colS_nil (i : Nat) : colS [] i = [] := setOf_nil
theorem setOf_len (l : List Int) : (setOf l).length ≤ l.length := nodup_le (rise_nodup (setOf_spec l).1) fun x hx => ((setOf_spec l).2 x).1 hx
theorem colS_len (X : List (List Int)) (i : Nat) : (colS X i).length ≤ X.length := by
  have := setOf_len (X.map fun L => (L[i]?).getD 0)
  rwa [List.length_map] at this
theorem colS_step {X : List (List Int)} {k : Nat} {L : List Int} {i : Nat} {v : Int} (hL : X[k]? = some L) (hv : L[i]? = some v) : colS (X.take (k + 1)) i = addS (colS (X.take k) i) v := by
  refine rise_eq (colS_rise _ _) (setOf_spec _).1 fun x => ?_
  rw [mem_addS, mem_colS, mem_colS, List.take_add_one, hL]
  constructor
  · rintro ⟨M, hM, e⟩
    rcases List.mem_append.1 hM with h | h
    · exact .inr ⟨M, h, e⟩
    · rw [Option.toList_some, List.mem_singleton] at h
      subst h
      rw [hv] at e; exact .inl e.symm
  · rintro (rfl | ⟨M, hM, e⟩)
    · exact ⟨L, by simp, by rw [hv]; rfl⟩
    · exact ⟨M, List.mem_append_left _ hM, e⟩
theorem colS_mono {X Y : List (List Int)} (h : ∀ L ∈ X, L ∈ Y) (i : Nat) : (colS X i).length ≤ (colS Y i).length :=
  nodup_le (rise_nodup (colS_rise X i)) fun x hx => by
    obtain ⟨L, hL, e⟩ := mem_colS.1 hx
    exact mem_colS.2 ⟨L, h L hL, e⟩
/-- the least of lists' lengths -/
def leastL (l : List (List Int)) : Nat := ((l.map List.length).min?).getD 0
theorem leastL_is {l : List (List Int)} {s : List Int} (hs : s ∈ l) (h : ∀ t ∈ l, s.length ≤ t.length) : leastL l = s.length := by
  unfold leastL
  rw [(List.min?_eq_some_iff (a := s.length)).2 ⟨List.mem_map.2 ⟨s, hs, rfl⟩, fun b hb => by obtain ⟨t, ht, rfl⟩ := List.mem_map.1 hb; exact h t ht⟩]
  rfl
theorem leastL_mem {l : List (List Int)} (h : l ≠ []) : ∃ s ∈ l, leastL l = s.length ∧ ∀ t ∈ l, s.length ≤ t.length := by
  have hx : ∃ m, (l.map List.length).min? = some m := by
    cases l with
    | nil => exact absurd rfl h
    | cons a l => exact ⟨_, rfl⟩
  obtain ⟨m, hm⟩ := hx
  obtain ⟨h1, h2⟩ := List.min?_eq_some_iff.1 hm
  obtain ⟨s, hs, rfl⟩ := List.mem_map.1 h1
  exact ⟨s, hs, by unfold leastL; rw [hm]; rfl, fun t ht => h2 _ (List.mem_map.2 ⟨t, ht, rfl⟩)⟩
theorem leastL_le {l : List (List Int)} {s : List Int} (hs : s ∈ l) : leastL l ≤ s.length := by
  obtain ⟨t, _, e, h⟩ := leastL_mem (l := l) (fun e => by rw [e] at hs; cases hs)
  rw [e]; exact h s hs
def colsS (k : Nat) (X : List (List Int)) : List (List Int) := (List.range k).map (colS X)
theorem colsS_len (k : Nat) (X : List (List Int)) : (colsS k X).length = k := by unfold colsS; simp
theorem colsS_at {k : Nat} {X : List (List Int)} {i : Nat} (h : i < k) : (colsS k X)[i]? = some (colS X i) := by
  unfold colsS; rw [List.getElem?_map, List.getElem?_range h]; rfl
theorem mem_colsS {k : Nat} {X : List (List Int)} {s : List Int} : s ∈ colsS k X ↔ ∃ i, i < k ∧ colS X i = s := by
  unfold colsS; simp
theorem least_mono {k : Nat} {X Y : List (List Int)} (h : ∀ L ∈ X, L ∈ Y) : leastL (colsS k X) ≤ leastL (colsS k Y) := by
  cases k with
  | zero => exact Nat.le_refl _
  | succ k =>
    obtain ⟨s, hs, e, _⟩ := leastL_mem (l := colsS (k + 1) Y) (fun e => by have := colsS_len (k + 1) Y; rw [e] at this; simp at this)
    obtain ⟨i, hi, rfl⟩ := mem_colsS.1 hs
    rw [e]
    exact Nat.le_trans (leastL_le (mem_colsS.2 ⟨i, hi, rfl⟩)) (colS_mono h i)
/-- vertices of a label -/
def labS (G : Gr) (x : Int) : List Int := ((List.range G.labels.length).filter fun v : Nat => decide (labelV G v = x)).map fun v : Nat => (v : Int)
theorem labS_len (G : Gr) (x : Int) : (labS G x).length = cntL G x G.labels.length := by unfold labS cntL; rw [List.length_map]
theorem mem_labS {G : Gr} {x v : Int} : v ∈ labS G x ↔ (0 ≤ v ∧ v < (G.labels.length : Int)) ∧ labelV G v = x := by
  unfold labS
  simp only [List.mem_map, List.mem_filter, List.mem_range, decide_eq_true_eq]
  constructor
  · rintro ⟨u, ⟨h1, h2⟩, rfl⟩; exact ⟨by omega, h2⟩
  · rintro ⟨h1, h2⟩
    exact ⟨v.toNat, ⟨by omega, by rw [Int.toNat_of_nonneg h1.1]; exact h2⟩, Int.toNat_of_nonneg h1.1⟩
theorem col_lab {G : Gr} {p : Pt} {w : Bool} {i : Nat} (hi : i < p.labels.length) : ∀ v ∈ colS (imgP G p w) i, v ∈ labS G (plOf p i) := by
  intro v hv
  obtain ⟨L, hL, e⟩ := mem_colS.1 hv
  have hI := mem_imgP.1 hL
  have hx := List.getElem?_eq_getElem (l := L) (i := i) (by rw [hI.len]; exact hi)
  rw [hx] at e
  subst e
  exact mem_labS.2 ⟨hI.lt _ (List.mem_of_getElem? hx), hI.label i _ hx⟩
theorem col_cnt {G : Gr} {p : Pt} {w : Bool} {i : Nat} (hi : i < p.labels.length) : (colS (imgP G p w) i).length ≤ cntL G (plOf p i) G.labels.length := by
  rw [← labS_len]
  exact nodup_le (rise_nodup (colS_rise _ _)) (col_lab hi)
/-- sets of which some have a list's vertex more -/
def midS (k : Nat) (Y : List (List Int)) (M : List Int) (done : Nat → Bool) : List (List Int) := (List.range k).map fun v => if done v then colS (Y ++ [M]) v else colS Y v
theorem midS_len (k : Nat) (Y : List (List Int)) (M : List Int) (done : Nat → Bool) : (midS k Y M done).length = k := by unfold midS; simp
theorem midS_at {k : Nat} {Y : List (List Int)} {M : List Int} {done : Nat → Bool} {v : Nat} (hv : v < k) : (midS k Y M done)[v]? = some (if done v then colS (Y ++ [M]) v else colS Y v) := by
  unfold midS; rw [List.getElem?_map, List.getElem?_range hv]; rfl
theorem midS_start (k : Nat) (Y : List (List Int)) (M : List Int) {done : Nat → Bool} (h : ∀ v, v < k → done v = false) : midS k Y M done = colsS k Y := by
  unfold midS colsS
  exact List.map_congr_left fun v hv => by rw [h v (List.mem_range.1 hv)]; rfl
theorem midS_end (k : Nat) (Y : List (List Int)) (M : List Int) {done : Nat → Bool} (h : ∀ v, v < k → done v = true) : midS k Y M done = colsS k (Y ++ [M]) := by
  unfold midS colsS
  exact List.map_congr_left fun v hv => by rw [h v (List.mem_range.1 hv)]; rfl
theorem colS_snoc {Y : List (List Int)} {M : List Int} {v : Nat} {x : Int} (h : M[v]? = some x) : colS (Y ++ [M]) v = addS (colS Y v) x := by
  have := colS_step (X := Y ++ [M]) (k := Y.length) (L := M) (i := v) (v := x) (by simp) h
  rwa [List.take_of_length_le (by simp), List.take_left' rfl] at this
theorem midS_step {k : Nat} {Y : List (List Int)} {M : List Int} {done done' : Nat → Bool} {w : Nat} {x : Int} (hx : M[w]? = some x) (h : ∀ v, v < k → done' v = (done v || decide (v = w))) : (midS k Y M done).set w (addS (colS Y w) x) = midS k Y M done' := by
  refine List.ext_getElem? fun v => ?_
  rw [List.getElem?_set, midS_len]
  by_cases hv : v < k
  · rw [midS_at hv, midS_at hv, h v hv]
    by_cases e : w = v
    · subst e
      rw [if_pos rfl, if_pos hv, decide_eq_true rfl, Bool.or_true, if_pos rfl, colS_snoc hx]
    · rw [if_neg e, decide_eq_false (fun h => e h.symm), Bool.or_false]
  · rw [List.getElem?_eq_none (by rw [midS_len]; omega), List.getElem?_eq_none (by rw [midS_len]; omega)]
    by_cases e : w = v
    · rw [if_pos e, if_neg (by omega)]
    · rw [if_neg e]
end Go.Gr
end

section
/- sets: Has (slices.BinarySearch at ints), kept, But; slices.ContainsFunc. -/
namespace Go.Gr
theorem rise_get {l : List Int} (h : l.Pairwise (· < ·)) {i j : Nat} {x y : Int} (hi : l[i]? = some x) (hj : l[j]? = some y) (hij : i < j) : x < y := by
  obtain ⟨h1, rfl⟩ := List.getElem?_eq_some_iff.1 hi
  obtain ⟨h2, rfl⟩ := List.getElem?_eq_some_iff.1 hj
  exact List.pairwise_iff_getElem.1 h i j h1 h2 hij
theorem rise_take {l : List Int} (h : l.Pairwise (· < ·)) {m : Nat} {y e : Int} (hm : l[m]? = some y) (he : y < e) : ∀ x ∈ l.take (m + 1), x < e := by
  intro x hx
  obtain ⟨i, hi, rfl⟩ := List.mem_take_iff_getElem.1 hx
  by_cases h2 : i = m
  · subst h2
    rw [List.getElem?_eq_getElem (by omega)] at hm
    rw [Option.some.inj hm]; exact he
  · have := rise_get h (List.getElem?_eq_getElem (by omega)) hm (show i < m by omega)
    omega
theorem rise_drop {l : List Int} (h : l.Pairwise (· < ·)) {m : Nat} {y e : Int} (hm : l[m]? = some y) (he : ¬ y < e) : ∀ x ∈ l.drop m, ¬ x < e := by
  intro x hx hc
  obtain ⟨i, hi, rfl⟩ := List.mem_drop_iff_getElem.1 hx
  by_cases h2 : i = 0
  · subst h2
    rw [List.getElem?_eq_getElem (by omega)] at hm
    have := Option.some.inj hm
    simp only [Nat.add_zero] at hc
    rw [this] at hc; exact he hc
  · have := rise_get h hm (List.getElem?_eq_getElem (i := m + i) (by omega)) (by omega)
    omega
theorem rise_mem {l : List Int} (h : l.Pairwise (· < ·)) {m : Nat} {e : Int} (h1 : ∀ x ∈ l.take m, x < e) (h2 : ∀ x ∈ l.drop m, ¬ x < e) : e ∈ l ↔ l[m]? = some e := by
  refine ⟨fun he => ?_, fun h => List.mem_of_getElem? h⟩
  obtain ⟨i, hi⟩ := List.mem_iff_getElem?.1 he
  have hil := (List.getElem?_eq_some_iff.1 hi).1
  have hie := (List.getElem?_eq_some_iff.1 hi).2
  by_cases h3 : i < m
  · have := h1 e (hie ▸ List.mem_take_iff_getElem.2 ⟨i, by omega, rfl⟩); omega
  · by_cases h4 : i = m
    · subst h4; exact hi
    · have hm := List.getElem?_eq_getElem (l := l) (i := m) (by omega)
      have h5 := rise_get h hm hi (by omega)
      have := h2 _ (List.mem_drop_iff_getElem.2 ⟨0, by omega, rfl⟩)
      simp only [Nat.add_zero] at this
      omega
end Go.Gr
namespace Go.Proofs.YteigfapjiekdnaaGreatDoor
open Go.Sx Go.RowKit Go.Reg Go.Gr

set_option maxRecDepth 100000
def pl_cless : List (Nat × Plan) := []
def G_cless : List FuncId := []
theorem cok_cless : codeOk Tryz.prog G_cless pl_cless (Tryz.f145.body.getD .skip) = true := by kernel_rfl
theorem run_cless (vs : Array Value) (w : World) : (callFunc 145 vs).run C1.P w = .ok (.enter 145 vs) w := by kernel_rfl
theorem less_pure (a b : Int) : Pure C1 145 [.int .i64 a, .int .i64 b] (fun y => y = .bool (decide (a < b))) := by
  refine pure_of c1_ok (pl := pl_cless) (G := G_cless) Tryz.func145 rfl Tryz.ntmps145 run_cless cok_cless (by simp) ?_
  (conv => whnf)
  (repeat' ((first | refine ord_ok (by (conv => whnf); (repeat' ((first | refine call_eq rfl (nan_pure a) ?_ | refine call_eq rfl (nan_pure b) ?_ | refine ify ?_ | refine ifn ?_ | refine i6 ?_ | refine ati ?_ | refine mst ?_ | refine rmd ?_ | refine ibo (fun _ => ?_) (fun _ => ?_)) <;> conv => whnf)); (all_goals (repeat' (first | exact trivial | exact rfl | refine And.intro ?_ ?_)))) ?_ | refine call_eq rfl (nan_pure a) ?_ | refine call_eq rfl (nan_pure b) ?_ | refine ify ?_ | refine ifn ?_ | refine i6 ?_ | refine ati ?_ | refine mst ?_ | refine rmd ?_ | refine ibo (fun _ => ?_) (fun _ => ?_)) <;> conv => whnf))
  exact rfl
def pl_snan : List (Nat × Plan) := []
def G_snan : List FuncId := []
theorem cok_snan : codeOk Tryz.prog G_snan pl_snan (Tryz.f146.body.getD .skip) = true := by kernel_rfl
theorem run_snan (vs : Array Value) (w : World) : (callFunc 146 vs).run C1.P w = .ok (.enter 146 vs) w := by kernel_rfl
theorem snan_pure (a : Int) : Pure C1 146 [.int .i64 a] (fun y => y = .bool false) := by
  refine pure_of c1_ok (pl := pl_snan) (G := G_snan) Tryz.func146 rfl Tryz.ntmps146 run_snan cok_snan (by simp) ?_
  ((conv => whnf); repeat' ((first | refine odw ?_ | refine ify ?_ | refine ifn ?_ | refine i6 ?_ | refine ati ?_ | refine mst ?_ | refine rmd ?_ | refine ibo (fun _ => ?_) (fun _ => ?_)) <;> conv => whnf))
  show Da.plain (.prop _ _) = _
  simp [Da.plain]
def pl_bsi : List (Nat × Plan) := []
def G_bsi : List FuncId := []
theorem cok_bsi : codeOk Tryz.prog G_bsi pl_bsi (Tryz.f113.body.getD .skip) = true := by kernel_rfl
theorem run_bsi (vs : Array Value) (w : World) : (callFunc 113 vs).run C1.P w = .ok (.enter 113 vs) w := by kernel_rfl
end Go.Proofs.YteigfapjiekdnaaGreatDoor
end
