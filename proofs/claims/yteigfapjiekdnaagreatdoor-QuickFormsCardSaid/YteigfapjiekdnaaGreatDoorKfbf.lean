/- Merged: Srp Pid Lct Mna Qfp. -/
import Derived.Test.YteigfapjiekdnaaGreatDoorKfbe
import Derived.Test.YteigfapjiekdnaaGreatDoorKfam
import Derived.Test.YteigfapjiekdnaaGreatDoorKfap
import Derived.Test.YteigfapjiekdnaaGreatDoorKfau
import Derived.Test.YteigfapjiekdnaaGreatDoorKfao
import Derived.Test.YteigfapjiekdnaaGreatDoorKfav
import Derived.Test.YteigfapjiekdnaaGreatDoorKfbb
section
/- slices.Compact, slices.Delete at an owned slice of ints, told for the engine. · sets: Of. -/
namespace Go.Reg
open Go Go.RowKit Go.Sort Go.Proofs
section
variable {E : Nat} {w : World} {l : List Int} {g cap : Nat}
theorem flat_one1 (l : List Int) : l.flatMap (fun n => [Value.int .i64 n]) = l.map (Value.int .i64) := by
  induction l with
  | nil => rfl
  | cons x l ih => simp [ih]
theorem Sl.holds1 (h : Sl E 1 (fun n : Int => [Value.int .i64 n]) w (.slice (some ⟨g, 0, none⟩) l.length cap) l) : Go.Sort.Holds (Value.int .i64) w g 0 l.toArray := by
  intro j hj
  have hj' : j < l.length := by simpa using hj
  have hx : l[j]? = some l.toArray[j]! := by rw [getElem!_pos l.toArray j hj]; simp [hj']
  have hc := Sl.cells (enc := fun n : Int => [Value.int .i64 n]) (k := 1) (fun _ => rfl) h rfl hx (j := 0) (u := Value.int .i64 l.toArray[j]!) rfl
  refine ⟨by simpa using hc, ?_⟩
  rcases h.2 with ⟨h1, _⟩ | ⟨g', cap', cur, h1, _, hg, _⟩
  · cases h1
  · cases h1
    simp [World.frozen?, hg]
theorem Sl.put1 (h : Sl E 1 (fun n : Int => [Value.int .i64 n]) w (.slice (some ⟨g, 0, none⟩) l.length cap) l) (d : Array Int) (hd : d.size = l.length) (m : Nat) (hm : m ≤ l.length) (q : Nat) :
    Sl E 1 (fun n : Int => [Value.int .i64 n]) (putRow (Value.int .i64) (Sort.ahead w q) g 0 d) (.slice (some ⟨g, 0, none⟩) m cap) (d.toList.take m) ∧ Tch [g] w (putRow (Value.int .i64) (Sort.ahead w q) g 0 d) := by
  have hlm : (d.toList.take m).length = m := by rw [List.length_take, Array.length_toList]; omega
  constructor
  · unfold Sl
    rw [flat_one1]
    refine ⟨by simp, ?_⟩
    rcases h.2 with ⟨h1, _⟩ | ⟨g', cap', cur, h1, h0, hg, hc, hmx, hs, ht⟩
    · cases h1
    · cases h1
      refine .inr ⟨g, cap, putCells (Value.int .i64) 0 d cur, by rw [hlm], Nat.zero_le _, ?_, by rw [hlm]; omega, hmx, by simp [putCells, hs], ?_⟩
      · simp [putRow, mapBlock, Sort.ahead, Array.getElem?_modify, hg, onCells]
      · rw [hlm]
        apply List.ext_getElem?
        intro t
        rw [List.getElem?_take, List.getElem?_map, List.getElem?_take]
        split
        · rename_i hlt
          have h1 : t < cur.size := by omega
          have h2 : t < d.size := by omega
          have h3 : t < m := by omega
          simp [putCells, h1, h2, h3]
        · rename_i hlt
          have h3 : ¬ t < m := by omega
          simp [h3]
  · refine ⟨rfl, rfl, rfl, ?_, ?_⟩
    · simp [putRow, mapBlock, Sort.ahead]
    · intro j hj hn
      have hne : g ≠ j := fun e => hn (by simp [e])
      simp [putRow, mapBlock, Sort.ahead, Array.getElem?_modify, hne]
end
end Go.Reg
namespace Go.Proofs.YteigfapjiekdnaaGreatDoor
open Go.RowKit Go.Shelf Go.Sx Go.Reg Go.Sort Go.Gr Go.Proofs

set_option maxRecDepth 100000
theorem ints_cs {O : List Nat} {w : World} : ∀ {l : List Int} {css : List (List Value)}, RepCss O w (l.map dI) css → css = l.map (fun n => [Value.int .i64 n])
  | [], css, h => by simpa only [List.map_nil, RepCss] using h
  | e :: l, css, h => by
    simp only [List.map_cons, RepCss, dI, RepC] at h
    obtain ⟨c1, c2, rfl, rfl, h⟩ := h
    rw [ints_cs h]; rfl
theorem ints_sl {E : Nat} {w : World} {v : Value} {l : List Int} : Sl E 1 id w v (l.map fun n => [Value.int .i64 n]) ↔ Sl E 1 (fun n : Int => [Value.int .i64 n]) w v l := by
  unfold Sl
  rw [List.length_map, List.flatMap_map]
  exact Iff.rfl
/-- between the shelf's words and 'EatSl' -/
theorem eat_of {f : FuncId} {l : List Int} {xs : List Da} {r : List Int} {vs : List Value} (hxs : ∀ (O : List Nat) (w : World) (us : List Value), Reps O w xs us → us = vs) (hrl : r.length ≤ l.length)
    (hrun : ∀ (us : Array Value) (w : World), (callFunc f us).run C1.P w = .ok (.enter f us) w)
    (hnil : l = [] → ∀ w : World, Calls C1.P f (.slice none 0 0 :: vs).toArray w fun e w' => e = .returned (.slice none 0 0) ∧ w' = w)
    (hmem : ∀ (g cap : Nat) (w : World), Go.Sort.Holds (Value.int .i64) w g 0 l.toArray → l.length ≤ cap → cap ≤ 9223372036854775807 → Calls C1.P f (.slice (some ⟨g, 0, none⟩) l.length cap :: vs).toArray w fun e w' => e = .returned (.slice (some ⟨g, 0, none⟩) r.length cap) ∧ ∃ q, ∃ rest : List Int, r.length + rest.length = l.length ∧ w' = putRow (Value.int .i64) (Sort.ahead w q) g 0 (r ++ rest).toArray) :
    EatSl C1 f 3 1 (l.map dI) xs (fun ds => ds = r.map dI) := by
  intro O w v css us hs hb hO hr hk hg hus
  obtain rfl := hxs O w us hus
  obtain rfl := ints_cs hr
  refine ⟨hrun _ _, ?_⟩
  have hs1 := ints_sl.1 hs
  rcases hs1.shape with ⟨rfl, rfl⟩ | ⟨g, cap, rfl, hc⟩
  · refine (hnil rfl w).mono ?_
    rintro e w' ⟨rfl, rfl⟩
    have : r = [] := List.eq_nil_of_length_eq_zero (by simpa using hrl)
    subst this
    exact ⟨_, _, [], rfl, rfl, Sl.nil _ _ _ _, fun b hb => (by cases hb), by simp [RepCss], by simp, Tch.refl _ _⟩
  · have hcm : cap ≤ 9223372036854775807 := by
      rcases hs1.2 with ⟨h1, _⟩ | ⟨g', cap', cur, h1, _, _, _, hm, _⟩
      · cases h1
      · cases h1; unfold maxLen at hm; omega
    refine (hmem g cap w hs1.holds1 hc hcm).mono ?_
    rintro e w' ⟨rfl, q, rest, hrl2, rfl⟩
    obtain ⟨h1, h2⟩ := hs1.put1 (r ++ rest).toArray (by simp; omega) r.length hrl q
    have ht : (r ++ rest).toArray.toList.take r.length = r := by simp
    rw [ht] at h1
    exact ⟨_, _, r.map fun n => [Value.int .i64 n], rfl, rfl, ints_sl.2 h1, fun b hb => .inl hb, css_ints r, css_row r, h2⟩
theorem reps_nil_eq {O : List Nat} {w : World} {us : List Value} (h : Reps O w [] us) : us = [] := reps_inv0 h
theorem compact_len (l : List Int) : (Lib.compact l).length ≤ l.length := by
  unfold Lib.compact Lib.compactUpTo
  rw [List.length_map]
  have := List.length_filter_le (Lib.keeps l.toArray) (List.range l.length)
  rwa [List.length_range] at this
theorem compact_eat (l : List Int) (hl : l.length ≤ 9223372036854775807) : EatSl C1 84 3 1 (l.map dI) [] (fun ds => ds = (Lib.compact l).map dI) :=
  eat_of (vs := []) (fun O w us h => reps_nil_eq h) (compact_len l) (fun us w => enters_of Tryz.func84 (by kernel_rfl) rfl us w)
    (fun _ w => AnyG.slices_Compact_int_empty Tryz.compactI none 0 w)
    (fun g cap w hH hc hm => (AnyG.slices_Compact_int Tryz.compactI g 0 cap l w hH hl hc).mono fun e w' ⟨h1, q, h2⟩ => ⟨h1, q, List.replicate (l.length - (Lib.compact l).length) 0, by have := compact_len l; simp; omega, h2⟩)
theorem delete_eat (l : List Int) (i : Nat) (hi : i < l.length) : EatSl C1 78 3 1 (l.map dI) [.int .i64 i, .int .i64 ((i : Int) + 1)] (fun ds => ds = (l.eraseIdx i).map dI) := by
  have he : l.eraseIdx i = l.take i ++ l.drop (i + 1) := List.eraseIdx_eq_take_drop_succ l i
  have hel : (l.eraseIdx i).length = l.length - 1 := by rw [List.length_eraseIdx]; split <;> omega
  refine eat_of (vs := [.int .i64 i, .int .i64 ((i : Int) + 1)]) (fun O w us h => ?_) (by omega) (fun us w => enters_of Tryz.func78 (by kernel_rfl) rfl us w)
    (fun h w => by subst h; simp at hi) (fun g cap w hH hc hm => ?_)
  · obtain ⟨v, vs, rfl, h1, h2⟩ := reps_inv h
    obtain ⟨v2, vs2, rfl, h3, h4⟩ := reps_inv h2
    obtain rfl := reps_inv0 h4
    rw [rep_int h1, rep_int h3]
  · have := AnyG.slices_Delete_int Tryz.deleteI g 0 cap i (i + 1) l w hH hc hm (by omega) (by omega)
    refine this.mono ?_
    rintro e w' ⟨h1, q, h2⟩
    refine ⟨?_, q, List.replicate (i + 1 - i) 0, ?_, ?_⟩
    · rw [h1, hel]; congr 2; omega
    · rw [hel, List.length_replicate]; omega
    · rw [h2, he]
end Go.Proofs.YteigfapjiekdnaaGreatDoor

namespace Go.Gr
open Go.Lib in
theorem compact_inv (d : Array Int) (hd : ∀ i j, i ≤ j → j < d.size → d[i]! ≤ d[j]!) : ∀ m, m ≤ d.size → (compactUpTo d m).Pairwise (· < ·) ∧ ∀ x, x ∈ compactUpTo d m ↔ ∃ j, j < m ∧ x = d[j]! := by
  intro m
  induction m with
  | zero => intro _; simp [compactUpTo]
  | succ m ih =>
    intro hm
    obtain ⟨h1, h2⟩ := ih (by omega)
    rw [compactUpTo_succ]
    cases hk : keeps d m with
    | true =>
      rw [if_pos rfl]
      refine ⟨List.pairwise_append.2 ⟨h1, by simp, fun a ha b hb => ?_⟩, fun x => ?_⟩
      · simp only [List.mem_singleton] at hb
        subst hb
        obtain ⟨j, hj, rfl⟩ := (h2 a).1 ha
        simp only [keeps, decide_eq_true_eq] at hk
        have g1 := hd j (m - 1) (by omega) (by omega)
        have g2 := hd (m - 1) m (by omega) (by omega)
        have : d[m]! ≠ d[m - 1]! := hk.resolve_left (by omega)
        omega
      · rw [List.mem_append, h2, List.mem_singleton]
        constructor
        · rintro (⟨j, hj, rfl⟩ | rfl)
          · exact ⟨j, by omega, rfl⟩
          · exact ⟨m, by omega, rfl⟩
        · rintro ⟨j, hj, rfl⟩
          by_cases e : j = m
          · subst e; exact .inr rfl
          · exact .inl ⟨j, by omega, rfl⟩
    | false =>
      simp only [Bool.false_eq_true, if_false, List.append_nil]
      refine ⟨h1, fun x => ?_⟩
      rw [h2]
      simp only [keeps, decide_eq_false_iff_not, not_or, Classical.not_not] at hk
      constructor
      · rintro ⟨j, hj, rfl⟩; exact ⟨j, by omega, rfl⟩
      · rintro ⟨j, hj, rfl⟩
        by_cases e : j = m
        · subst e; exact ⟨j - 1, by omega, hk.2⟩
        · exact ⟨j, by omega, rfl⟩
/-- a list's numbers, rising, each once -/
def setOf (l : List Int) : List Int := Lib.compact (l.mergeSort fun x y => decide (x ≤ y))
theorem setOf_spec (l : List Int) : (setOf l).Pairwise (· < ·) ∧ ∀ x, x ∈ setOf l ↔ x ∈ l := by
  have hp := List.mergeSort_perm l fun x y => decide (x ≤ y)
  have hs : (l.mergeSort fun x y => decide (x ≤ y)).Pairwise (fun x y => decide (x ≤ y) = true) := List.pairwise_mergeSort (by intro a b c; simp; omega) (by intro a b; simp; omega) l
  generalize hz : (l.mergeSort fun x y => decide (x ≤ y)) = z at hp hs
  have hd : ∀ i j, i ≤ j → j < z.toArray.size → z.toArray[i]! ≤ z.toArray[j]! := by
    intro i j hij hj
    have hj' : j < z.length := by simpa using hj
    rw [getElem!_pos z.toArray j hj, getElem!_pos z.toArray i (by omega)]
    by_cases e : i = j
    · subst e; exact Int.le_refl _
    · have := List.pairwise_iff_getElem.1 hs i j (by omega) hj' (by omega)
      simpa using this
  obtain ⟨h1, h2⟩ := compact_inv z.toArray hd z.length (by simp)
  unfold setOf Lib.compact
  rw [hz]
  refine ⟨h1, fun x => ?_⟩
  rw [h2, ← hp.mem_iff, List.mem_iff_getElem]
  constructor
  · rintro ⟨j, hj, rfl⟩
    refine ⟨j, hj, ?_⟩
    rw [getElem!_pos z.toArray j (by simpa using hj)]; simp
  · rintro ⟨j, hj, rfl⟩
    refine ⟨j, hj, ?_⟩
    rw [getElem!_pos z.toArray j (by simpa using hj)]; simp
end Go.Gr
namespace Go.Proofs.YteigfapjiekdnaaGreatDoor
open Go.Sx Go.RowKit Go.Reg Go.Gr

set_option maxRecDepth 100000
theorem setOf_len (l : List Int) : (setOf l).length ≤ l.length := by
  have := compact_len (l.mergeSort fun x y => decide (x ≤ y))
  rwa [List.length_mergeSort] at this
def pl_sof : List (Nat × Plan) := []
def G_sof : List FuncId := []
theorem cok_sof : codeOk Tryz.prog G_sof pl_sof (Tryz.f66.body.getD .skip) = true := by kernel_rfl
theorem run_sof (vs : Array Value) (w : World) : (callFunc 66 vs).run C1.P w = .ok (.enter 66 vs) w := by kernel_rfl
theorem of_mksl (l : List Int) (hl : l.length ≤ 4294967296) : MakeSl C1 66 [dIs l] 3 1 (fun ds => ds = (setOf l).map dI) := by
  refine mksl_of c1_ok (pl := pl_sof) (G := G_sof) Tryz.func66 rfl Tryz.ntmps66 run_sof cok_sof (by simp) ?_
  (conv => whnf)
  (repeat' ((first | refine ord_ok (by (conv => whnf); (repeat' ((first | refine call_eq rfl (values_pure l) ?_ | refine ify ?_ | refine ifn ?_ | refine i6 ?_ | refine ati ?_ | refine mst ?_ | refine rmd ?_ | refine ibo (fun _ => ?_) (fun _ => ?_)) <;> conv => whnf)); (all_goals (repeat' (first | exact trivial | exact rfl | refine And.intro ?_ ?_)))) ?_ | refine call_eq rfl (values_pure l) ?_ | refine ify ?_ | refine ifn ?_ | refine i6 ?_ | refine ati ?_ | refine mst ?_ | refine rmd ?_ | refine ibo (fun _ => ?_) (fun _ => ?_)) <;> conv => whnf))
  refine call_mksl 29 rfl rfl (sorted_mksl l hl) ?_; rintro ds rfl
  (conv => whnf)
  refine call_eat rfl rfl (compact_eat (l.mergeSort fun x y => decide (x ≤ y)) (by rw [List.length_mergeSort]; omega)) ?_; rintro ds rfl
  ((conv => whnf); repeat' ((first | refine odw ?_ | refine ify ?_ | refine ifn ?_ | refine i6 ?_ | refine ati ?_ | refine mst ?_ | refine rmd ?_ | refine ibo (fun _ => ?_) (fun _ => ?_)) <;> conv => whnf))
  exact ⟨rfl, rfl, rfl⟩
end Go.Proofs.YteigfapjiekdnaaGreatDoor
end

section
/- perm: Id, times, Of. -/
namespace Go.Proofs.YteigfapjiekdnaaGreatDoor
open Go.Sx Go.RowKit Go.Reg Go.Gr

set_option maxRecDepth 100000
/-- what Of keeps: c to go, the list so far, what is left, the rank -/
structure OfI (n : Nat) (s : Nat × Int × List Int × List Int × Nat) : Prop where
  z : s.2.1 = (s.1 : Int) - 1
  len : s.2.2.2.1.length = s.1
  all : (s.2.2.1 ++ s.2.2.2.1).Perm (idL n)
  rank : s.2.2.2.2 < facN s.1
end Go.Proofs.YteigfapjiekdnaaGreatDoor
end

section
/- CanonTurns: the walk. -/
namespace Go.Gr
open Go.Proofs.YteigfapjiekdnaaGreatDoor
theorem pErr_of {n : Nat} {p : Pt} (hp : PtOk n p) (h8 : n ≤ 8) (hl : ∀ x ∈ p.labels, 0 ≤ x ∧ x ≤ 255) : pErr p = none := by
  unfold pErr
  have h1 : lErr p.labels = none := by
    refine lErr_no (by rw [hp.len]; omega) fun k y hk hy => ?_
    have := hl y (List.mem_of_getElem? hy)
    unfold badLabel
    simp; omega
  rw [h1]
  refine findSome_no fun i hi => ?_
  have hx := List.getElem?_eq_getElem hi
  have he := hp.edge _ (List.getElem_mem hi)
  generalize hE : p.edges[i] = e at hx he
  unfold eAt
  rw [hx]
  simp only
  rw [Option.map_eq_none_iff]
  unfold eBad
  rw [if_neg (by rw [hp.len]; simp; omega), if_neg (by omega)]
  by_cases h0 : i = 0
  · rw [if_pos h0]
  · rw [if_neg h0]
    have hj : i - 1 < p.edges.length := by omega
    rw [List.getElem?_eq_getElem hj]
    simp only
    rw [if_pos]
    have := List.pairwise_iff_getElem.1 hp.strict (i - 1) i hj hi (by omega)
    rwa [hE] at this
theorem pErr_turn {p : Pt} (hp : pErr p = none) {b : List Int} (hb : IsOrd p.labels.length b) : pErr (turnP p b) = none := by
  have hl := lErr_none (pErr_none hp).1
  exact pErr_of (turnP_ok hb (pt_of hp)) hl.1 fun x hx => hl.2 x ((turnP_labels (pt_of hp) hb).mem_iff.1 hx)
end Go.Gr
end

section
/- mini, plain: the sets of a pattern's vertices, the least of their sizes. -/
namespace Go.Gr
open Go.Proofs.YteigfapjiekdnaaGreatDoor
theorem rise_nodup {l : List Int} (h : l.Pairwise (· < ·)) : l.Nodup := h.imp fun h => Int.ne_of_lt h
theorem setOf_len (l : List Int) : (setOf l).length ≤ l.length := nodup_le (rise_nodup (setOf_spec l).1) fun x hx => ((setOf_spec l).2 x).1 hx
/-- vertices of a label -/
def labS (G : Gr) (x : Int) : List Int := ((List.range G.labels.length).filter fun v : Nat => decide (labelV G v = x)).map fun v : Nat => (v : Int)
end Go.Gr
end

section
/- quick, plain: a list is an image of its quick pattern; lists of one set have alike patterns. -/
namespace Go.Gr
open Go.Proofs.YteigfapjiekdnaaGreatDoor
theorem pt_ph {n : Nat} {p q : Pt} (hp : PtOk n p) (hq : PtOk n q) (h1 : ∀ i, i < n → p.labels[i]? = q.labels[i]?) (h2 : ∀ i j, i < j → j < n → phOf p i j = phOf q i j) : p = q := by
  have half : ∀ {p q : Pt}, PtOk n p → (∀ i j, i < j → j < n → phOf p i j = phOf q i j) → ∀ e, e ∈ p.edges → e ∈ q.edges := by
    intro p q hp h2 e he
    obtain ⟨i, j, hij, hj, rfl⟩ := edge_nat (hp.edge e he)
    have h3 : phOf p i j = true := by unfold phOf; rw [turn_lt (by omega)]; exact decide_eq_true he
    rw [h2 i j hij hj] at h3
    unfold phOf at h3
    rw [turn_lt (by omega)] at h3
    exact of_decide_eq_true h3
  exact pt_ext hp hq h1 fun e => ⟨half hp h2 e, half hq (fun i j hij hj => (h2 i j hij hj).symm) e⟩
section
variable {G : Gr} {l : List Int} {n : Nat}
theorem vertP_ok (G : Gr) (hl : l.length = n) : PtOk n (vertP G l) := by
  refine ⟨by unfold vertP; rw [List.length_map]; exact hl, fun e he => ?_, rowsF_strict _ _ _⟩
  obtain ⟨j, x, hj, hx, hjx, _, rfl⟩ := mem_rowsF.1 he
  simp only; omega
theorem vertP_ph (hG : G.Ok) {i j : Nat} {x y : Int} (hij : i ≠ j) (hx : l[i]? = some x) (hy : l[j]? = some y) : phOf (vertP G l) i j = hasG G x y := by
  have hE : ∀ e ∈ G.edges, e.a < e.b := fun e he => (hG.edge e he).2.1
  have key : ∀ {i j : Nat} {x y : Int}, i < j → l[i]? = some x → l[j]? = some y → phOf (vertP G l) i j = hasG G x y := by
    intro i j x y hij hx hy
    have hjl := (List.getElem?_eq_some_iff.1 hy).1
    have hil := (List.getElem?_eq_some_iff.1 hx).1
    rw [Bool.eq_iff_iff]
    unfold phOf
    rw [turn_lt (by omega), decide_eq_true_eq]
    show _ ∈ rowsF _ _ _ ↔ _
    rw [mem_rowsF]
    have hp : pairF G.edges l i j = hasG G x y := by
      unfold pairF
      rw [hx, hy, Option.getD_some, Option.getD_some, hasR_turn hE]; rfl
    constructor
    · rintro ⟨a, b, _, _, _, h, e⟩
      simp only [Edg.mk.injEq] at e
      have e1 : a = i := by omega
      have e2 : b = j := by omega
      rw [e1, e2, hp] at h; exact h
    · intro h
      exact ⟨i, j, hil, hjl, hij, by rw [hp]; exact h, rfl⟩
  rcases Nat.lt_or_gt_of_ne hij with h | h
  · exact key h hx hy
  · rw [phOf_comm, hasG_comm]; exact key h hy hx
theorem vertP_label {i : Nat} {x : Int} (hx : l[i]? = some x) : (vertP G l).labels[i]? = some (labelV G x) := by
  show (l.map _)[i]? = _
  rw [List.getElem?_map, hx]; rfl
theorem vertP_img (hG : G.Ok) (hn : l.Nodup) (hr : ∀ x ∈ l, 0 ≤ x ∧ x < (G.labels.length : Int)) : IsImg G (vertP G l) true l := by
  refine ⟨by unfold vertP; rw [List.length_map], hn, hr, fun i x hx => ?_, fun i j x y hij hx hy h => ?_, fun _ i j x y hij hx hy h => ?_⟩
  · unfold plOf
    rw [vertP_label hx]; rfl
  · rw [vertP_ph hG hij hx hy] at h; exact h
  · rw [vertP_ph hG hij hx hy]; exact h
theorem vertP_err (hG : G.Ok) (h8 : l.length ≤ 8) (hr : ∀ x ∈ l, 0 ≤ x ∧ x < (G.labels.length : Int)) : pErr (vertP G l) = none := by
  refine pErr_of (vertP_ok G rfl) h8 fun x hx => ?_
  obtain ⟨y, hy, rfl⟩ := List.mem_map.1 hx
  exact labelV_ok hG (hr y hy)
theorem vertP_turn (hG : G.Ok) {o : List Int} (ho : IsOrd n o) (hl : l.length = n) : vertP G (mvI o l) = turnP (vertP G l) o := by
  have hml : (mvI o l).length = n := by rw [mvI_len, hl]
  have hv := vertP_ok G hl
  refine pt_ph (vertP_ok G hml) (turnP_ok ho hv) (fun k hk => ?_) (fun a b hab hb => ?_)
  · obtain ⟨i, hi, rfl⟩ := pl_surj ho hk
    have hx := List.getElem?_eq_getElem (l := l) (i := i) (by omega)
    rw [turnP_at ho hv hi, vertP_label hx, vertP_label (x := l[i]'(by omega)) (by rw [mvI_at ho hl hi]; exact hx)]
  · obtain ⟨i, hi, rfl⟩ := pl_surj ho (show a < n by omega)
    obtain ⟨j, hj, rfl⟩ := pl_surj ho hb
    have hij : i ≠ j := fun e => by subst e; omega
    have hx := List.getElem?_eq_getElem (l := l) (i := i) (by omega)
    have hy := List.getElem?_eq_getElem (l := l) (i := j) (by omega)
    rw [phOf_turn ho hv hi hj, vertP_ph hG hij hx hy, vertP_ph hG (by omega) (x := l[i]'(by omega)) (y := l[j]'(by omega)) (by rw [mvI_at ho hl hi]; exact hx) (by rw [mvI_at ho hl hj]; exact hy)]
/-- lists of one set: one comes of the other by an order -/
theorem perm_order {s : List Int} (hn : l.Nodup) (hp : s.Perm l) (hl : l.length = n) : ∃ o, IsOrd n o ∧ mvI o l = s := by
  have hs : s.Nodup := hp.nodup_iff.2 hn
  have hsl : s.length = n := hp.length_eq.trans hl
  have key : ∀ i, i < n → ∃ k, k < n ∧ s[k]? = l[i]? := fun i hi => by
    have hm : l[i]'(by omega) ∈ s := hp.mem_iff.2 (List.getElem_mem _)
    obtain ⟨k, hk⟩ := List.mem_iff_getElem?.1 hm
    exact ⟨k, by have := (List.getElem?_eq_some_iff.1 hk).1; omega, by rw [hk, List.getElem?_eq_getElem (by omega)]⟩
  let f : Nat → Nat := fun i => if h : i < n then Classical.choose (key i h) else 0
  have hf : ∀ i, i < n → f i < n ∧ s[f i]? = l[i]? := fun i hi => by
    have := Classical.choose_spec (key i hi)
    show (if h : i < n then Classical.choose (key i h) else 0) < n ∧ s[if h : i < n then Classical.choose (key i h) else 0]? = l[i]?
    rw [dif_pos hi]; exact this
  have ho : IsOrd n ((List.range n).map fun i => (f i : Int)) := ord_of (fun i hi => (hf i hi).1) fun i j hi hj e => by
    have h1 := (hf i hi).2
    have h2 := (hf j hj).2
    rw [e, h2] at h1
    exact nodup_at hn (List.getElem?_eq_getElem (l := l) (i := i) (by omega)) (h1.trans (List.getElem?_eq_getElem (by omega)))
  refine ⟨_, ho, list_ext (m := n) (by rw [mvI_len, hl]) hsl fun k hk => ?_⟩
  obtain ⟨i, hi, e⟩ := pl_surj ho hk
  rw [← e, mvI_at ho hl hi, pl_of hi, (hf i hi).2]
theorem mvI_mem {o : List Int} (ho : IsOrd n o) (hl : l.length = n) (x : Int) : x ∈ mvI o l ↔ x ∈ l := by
  constructor
  · intro h
    obtain ⟨k, hk⟩ := List.mem_iff_getElem?.1 h
    obtain ⟨i, _, _, hx⟩ := mvI_from ho hl hk
    exact List.mem_of_getElem? hx
  · intro h
    obtain ⟨i, hi⟩ := List.mem_iff_getElem?.1 h
    have hil := (List.getElem?_eq_some_iff.1 hi).1
    have := mvI_at ho hl (show i < n by omega)
    rw [hi] at this
    exact List.mem_of_getElem? this
theorem mvI_set {o : List Int} (ho : IsOrd n o) (hl : l.length = n) : setOf (mvI o l) = setOf l := rise_eq (setOf_spec _).1 (setOf_spec _).1 fun x => by
  rw [(setOf_spec _).2, (setOf_spec _).2]; exact mvI_mem ho hl x
theorem set_perm (hn : l.Nodup) : (setOf l).Perm l := by
  have h1 := setOf_len l
  have h2 := nodup_le hn fun x hx => ((setOf_spec l).2 x).2 hx
  exact perm_of_sub (rise_nodup (setOf_spec l).1) (fun x hx => ((setOf_spec l).2 x).1 hx) (by omega)
end
end Go.Gr
end
