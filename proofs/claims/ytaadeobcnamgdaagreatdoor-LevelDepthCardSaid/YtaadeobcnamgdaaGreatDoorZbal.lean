/- Merged: Srp Lna. -/
import Derived.Test.YtaadeobcnamgdaaGreatDoorZbai
import Derived.Test.YtaadeobcnamgdaaGreatDoorZbak
import Derived.Test.YtaadeobcnamgdaaGreatDoorZbad
section
/- slices.Compact, slices.Delete at an owned slice of ints, told for the engine. · sets: Of. -/
namespace Go.Reg
open Go Go.RowKit Go.Sort Go.Proofs
section
variable {E : Nat} {w : World} {l : List Int} {g cap : Nat}
theorem flat_one1 (l : List Int) : l.flatMap (fun n => [Value.int .i64 n]) = l.map (Value.int .i64) := by
  induction l with
  | nil => rfl
  | cons x l ih => simp [ih]
theorem Sl.holds1 (h : Sl E 1 (fun n : Int => [Value.int .i64 n]) w (.slice (some ⟨g, 0, none⟩) l.length cap) l) : Go.Sort.Holds (Value.int .i64) w g 0 l.toArray := by
  intro j hj
  have hj' : j < l.length := by simpa using hj
  have hx : l[j]? = some l.toArray[j]! := by rw [getElem!_pos l.toArray j hj]; simp [hj']
  have hc := Sl.cells (enc := fun n : Int => [Value.int .i64 n]) (k := 1) (fun _ => rfl) h rfl hx (j := 0) (u := Value.int .i64 l.toArray[j]!) rfl
  refine ⟨by simpa using hc, ?_⟩
  rcases h.2 with ⟨h1, _⟩ | ⟨g', cap', cur, h1, _, hg, _⟩
  · cases h1
  · cases h1
    simp [World.frozen?, hg]
theorem Sl.put1 (h : Sl E 1 (fun n : Int => [Value.int .i64 n]) w (.slice (some ⟨g, 0, none⟩) l.length cap) l) (d : Array Int) (hd : d.size = l.length) (m : Nat) (hm : m ≤ l.length) (q : Nat) :
    Sl E 1 (fun n : Int => [Value.int .i64 n]) (putRow (Value.int .i64) (Sort.ahead w q) g 0 d) (.slice (some ⟨g, 0, none⟩) m cap) (d.toList.take m) ∧ Tch [g] w (putRow (Value.int .i64) (Sort.ahead w q) g 0 d) := by
  have hlm : (d.toList.take m).length = m := by rw [List.length_take, Array.length_toList]; omega
  constructor
  · unfold Sl
    rw [flat_one1]
    refine ⟨by simp, ?_⟩
    rcases h.2 with ⟨h1, _⟩ | ⟨g', cap', cur, h1, h0, hg, hc, hmx, hs, ht⟩
    · cases h1
    · cases h1
      refine .inr ⟨g, cap, putCells (Value.int .i64) 0 d cur, by rw [hlm], Nat.zero_le _, ?_, by rw [hlm]; omega, hmx, by simp [putCells, hs], ?_⟩
      · simp [putRow, mapBlock, Sort.ahead, Array.getElem?_modify, hg, onCells]
      · rw [hlm]
        apply List.ext_getElem?
        intro t
        rw [List.getElem?_take, List.getElem?_map, List.getElem?_take]
        split
        · rename_i hlt
          have h1 : t < cur.size := by omega
          have h2 : t < d.size := by omega
          have h3 : t < m := by omega
          simp [putCells, h1, h2, h3]
        · rename_i hlt
          have h3 : ¬ t < m := by omega
          simp [h3]
  · refine ⟨rfl, rfl, rfl, ?_, ?_⟩
    · simp [putRow, mapBlock, Sort.ahead]
    · intro j hj hn
      have hne : g ≠ j := fun e => hn (by simp [e])
      simp [putRow, mapBlock, Sort.ahead, Array.getElem?_modify, hne]
end
end Go.Reg
namespace Go.Proofs.YtaadeobcnamgdaaGreatDoor
open Go.RowKit Go.Shelf Go.Sx Go.Reg Go.Sort Go.Gr Go.Proofs

set_option maxRecDepth 100000
theorem ints_cs {O : List Nat} {w : World} : ∀ {l : List Int} {css : List (List Value)}, RepCss O w (l.map dI) css → css = l.map (fun n => [Value.int .i64 n])
  | [], css, h => by simpa only [List.map_nil, RepCss] using h
  | e :: l, css, h => by
    simp only [List.map_cons, RepCss, dI, RepC] at h
    obtain ⟨c1, c2, rfl, rfl, h⟩ := h
    rw [ints_cs h]; rfl
theorem ints_sl {E : Nat} {w : World} {v : Value} {l : List Int} : Sl E 1 id w v (l.map fun n => [Value.int .i64 n]) ↔ Sl E 1 (fun n : Int => [Value.int .i64 n]) w v l := by
  unfold Sl
  rw [List.length_map, List.flatMap_map]
  exact Iff.rfl
/-- between the shelf's words and 'EatSl' -/
theorem eat_of {f : FuncId} {l : List Int} {xs : List Da} {r : List Int} {vs : List Value} (hxs : ∀ (O : List Nat) (w : World) (us : List Value), Reps O w xs us → us = vs) (hrl : r.length ≤ l.length)
    (hrun : ∀ (us : Array Value) (w : World), (callFunc f us).run C1.P w = .ok (.enter f us) w)
    (hnil : l = [] → ∀ w : World, Calls C1.P f (.slice none 0 0 :: vs).toArray w fun e w' => e = .returned (.slice none 0 0) ∧ w' = w)
    (hmem : ∀ (g cap : Nat) (w : World), Go.Sort.Holds (Value.int .i64) w g 0 l.toArray → l.length ≤ cap → cap ≤ 9223372036854775807 → Calls C1.P f (.slice (some ⟨g, 0, none⟩) l.length cap :: vs).toArray w fun e w' => e = .returned (.slice (some ⟨g, 0, none⟩) r.length cap) ∧ ∃ q, ∃ rest : List Int, r.length + rest.length = l.length ∧ w' = putRow (Value.int .i64) (Sort.ahead w q) g 0 (r ++ rest).toArray) :
    EatSl C1 f 3 1 (l.map dI) xs (fun ds => ds = r.map dI) := by
  intro O w v css us hs hb hO hr hk hg hus
  obtain rfl := hxs O w us hus
  obtain rfl := ints_cs hr
  refine ⟨hrun _ _, ?_⟩
  have hs1 := ints_sl.1 hs
  rcases hs1.shape with ⟨rfl, rfl⟩ | ⟨g, cap, rfl, hc⟩
  · refine (hnil rfl w).mono ?_
    rintro e w' ⟨rfl, rfl⟩
    have : r = [] := List.eq_nil_of_length_eq_zero (by simpa using hrl)
    subst this
    exact ⟨_, _, [], rfl, rfl, Sl.nil _ _ _ _, fun b hb => (by cases hb), by simp [RepCss], by simp, Tch.refl _ _⟩
  · have hcm : cap ≤ 9223372036854775807 := by
      rcases hs1.2 with ⟨h1, _⟩ | ⟨g', cap', cur, h1, _, _, _, hm, _⟩
      · cases h1
      · cases h1; unfold maxLen at hm; omega
    refine (hmem g cap w hs1.holds1 hc hcm).mono ?_
    rintro e w' ⟨rfl, q, rest, hrl2, rfl⟩
    obtain ⟨h1, h2⟩ := hs1.put1 (r ++ rest).toArray (by simp; omega) r.length hrl q
    have ht : (r ++ rest).toArray.toList.take r.length = r := by simp
    rw [ht] at h1
    exact ⟨_, _, r.map fun n => [Value.int .i64 n], rfl, rfl, ints_sl.2 h1, fun b hb => .inl hb, css_ints r, css_row r, h2⟩
theorem reps_nil_eq {O : List Nat} {w : World} {us : List Value} (h : Reps O w [] us) : us = [] := reps_inv0 h
theorem compact_len (l : List Int) : (Lib.compact l).length ≤ l.length := by
  unfold Lib.compact Lib.compactUpTo
  rw [List.length_map]
  have := List.length_filter_le (Lib.keeps l.toArray) (List.range l.length)
  rwa [List.length_range] at this
theorem compact_eat (l : List Int) (hl : l.length ≤ 9223372036854775807) : EatSl C1 228 3 1 (l.map dI) [] (fun ds => ds = (Lib.compact l).map dI) :=
  eat_of (vs := []) (fun O w us h => reps_nil_eq h) (compact_len l) (fun us w => enters_of Tryz.func228 (by kernel_rfl) rfl us w)
    (fun _ w => AnyG.slices_Compact_int_empty Tryz.compactI none 0 w)
    (fun g cap w hH hc hm => (AnyG.slices_Compact_int Tryz.compactI g 0 cap l w hH hl hc).mono fun e w' ⟨h1, q, h2⟩ => ⟨h1, q, List.replicate (l.length - (Lib.compact l).length) 0, by have := compact_len l; simp; omega, h2⟩)
end Go.Proofs.YtaadeobcnamgdaaGreatDoor

namespace Go.Gr
open Go.Lib in
theorem compact_inv (d : Array Int) (hd : ∀ i j, i ≤ j → j < d.size → d[i]! ≤ d[j]!) : ∀ m, m ≤ d.size → (compactUpTo d m).Pairwise (· < ·) ∧ ∀ x, x ∈ compactUpTo d m ↔ ∃ j, j < m ∧ x = d[j]! := by
  intro m
  induction m with
  | zero => intro _; simp [compactUpTo]
  | succ m ih =>
    intro hm
    obtain ⟨h1, h2⟩ := ih (by omega)
    rw [compactUpTo_succ]
    cases hk : keeps d m with
    | true =>
      rw [if_pos rfl]
      refine ⟨List.pairwise_append.2 ⟨h1, by simp, fun a ha b hb => ?_⟩, fun x => ?_⟩
      · simp only [List.mem_singleton] at hb
        subst hb
        obtain ⟨j, hj, rfl⟩ := (h2 a).1 ha
        simp only [keeps, decide_eq_true_eq] at hk
        have g1 := hd j (m - 1) (by omega) (by omega)
        have g2 := hd (m - 1) m (by omega) (by omega)
        have : d[m]! ≠ d[m - 1]! := hk.resolve_left (by omega)
        omega
      · rw [List.mem_append, h2, List.mem_singleton]
        constructor
        · rintro (⟨j, hj, rfl⟩ | rfl)
          · exact ⟨j, by omega, rfl⟩
          · exact ⟨m, by omega, rfl⟩
        · rintro ⟨j, hj, rfl⟩
          by_cases e : j = m
          · subst e; exact .inr rfl
          · exact .inl ⟨j, by omega, rfl⟩
    | false =>
      simp only [Bool.false_eq_true, if_false, List.append_nil]
      refine ⟨h1, fun x => ?_⟩
      rw [h2]
      simp only [keeps, decide_eq_false_iff_not, not_or, Classical.not_not] at hk
      constructor
      · rintro ⟨j, hj, rfl⟩; exact ⟨j, by omega, rfl⟩
      · rintro ⟨j, hj, rfl⟩
        by_cases e : j = m
        · subst e; exact ⟨j - 1, by omega, hk.2⟩
        · exact ⟨j, by omega, rfl⟩
/-- a list's numbers, rising, each once -/
def setOf (l : List Int) : List Int := Lib.compact (l.mergeSort fun x y => decide (x ≤ y))
theorem setOf_spec (l : List Int) : (setOf l).Pairwise (· < ·) ∧ ∀ x, x ∈ setOf l ↔ x ∈ l := by
  have hp := List.mergeSort_perm l fun x y => decide (x ≤ y)
  have hs : (l.mergeSort fun x y => decide (x ≤ y)).Pairwise (fun x y => decide (x ≤ y) = true) := List.pairwise_mergeSort (by intro a b c; simp; omega) (by intro a b; simp; omega) l
  generalize hz : (l.mergeSort fun x y => decide (x ≤ y)) = z at hp hs
  have hd : ∀ i j, i ≤ j → j < z.toArray.size → z.toArray[i]! ≤ z.toArray[j]! := by
    intro i j hij hj
    have hj' : j < z.length := by simpa using hj
    rw [getElem!_pos z.toArray j hj, getElem!_pos z.toArray i (by omega)]
    by_cases e : i = j
    · subst e; exact Int.le_refl _
    · have := List.pairwise_iff_getElem.1 hs i j (by omega) hj' (by omega)
      simpa using this
  obtain ⟨h1, h2⟩ := compact_inv z.toArray hd z.length (by simp)
  unfold setOf Lib.compact
  rw [hz]
  refine ⟨h1, fun x => ?_⟩
  rw [h2, ← hp.mem_iff, List.mem_iff_getElem]
  constructor
  · rintro ⟨j, hj, rfl⟩
    refine ⟨j, hj, ?_⟩
    rw [getElem!_pos z.toArray j (by simpa using hj)]; simp
  · rintro ⟨j, hj, rfl⟩
    refine ⟨j, hj, ?_⟩
    rw [getElem!_pos z.toArray j (by simpa using hj)]; simp
end Go.Gr
namespace Go.Proofs.YtaadeobcnamgdaaGreatDoor
open Go.Sx Go.RowKit Go.Reg Go.Gr

set_option maxRecDepth 100000
theorem setOf_len (l : List Int) : (setOf l).length ≤ l.length := by
  have := compact_len (l.mergeSort fun x y => decide (x ≤ y))
  rwa [List.length_mergeSort] at this
def pl_sof : List (Nat × Plan) := []
def G_sof : List FuncId := []
theorem cok_sof : codeOk Tryz.prog G_sof pl_sof (Tryz.f181.body.getD .skip) = true := by kernel_rfl
theorem run_sof (vs : Array Value) (w : World) : (callFunc 181 vs).run C1.P w = .ok (.enter 181 vs) w := by kernel_rfl
theorem of_pure (l : List Int) (hl : l.length ≤ 4294967296) : Pure C1 181 [dIs l] (fun y => y = dIs (setOf l)) := by
  refine pure_of c1_ok (pl := pl_sof) (G := G_sof) Tryz.func181 rfl Tryz.ntmps181 run_sof cok_sof (by simp) ?_
  (conv => whnf)
  (repeat' ((first | refine ord_ok (by (conv => whnf); (repeat' ((first | refine call_eq rfl (values_pure l) ?_ | refine ify ?_ | refine ifn ?_ | refine i6 ?_ | refine ati ?_ | refine mst ?_ | refine rmd ?_ | refine ibo (fun _ => ?_) (fun _ => ?_)) <;> conv => whnf)); (all_goals (repeat' (first | exact trivial | exact rfl | refine And.intro ?_ ?_)))) ?_ | refine call_eq rfl (values_pure l) ?_ | refine ify ?_ | refine ifn ?_ | refine i6 ?_ | refine ati ?_ | refine mst ?_ | refine rmd ?_ | refine ibo (fun _ => ?_) (fun _ => ?_)) <;> conv => whnf))
  refine call_mksl 29 rfl rfl (sorted_mksl l hl) ?_; rintro ds rfl
  (conv => whnf)
  refine call_eat rfl rfl (compact_eat (l.mergeSort fun x y => decide (x ≤ y)) (by rw [List.length_mergeSort]; omega)) ?_; rintro ds rfl
  ((conv => whnf); repeat' ((first | refine odw ?_ | refine ify ?_ | refine ifn ?_ | refine i6 ?_ | refine ati ?_ | refine mst ?_ | refine rmd ?_ | refine ibo (fun _ => ?_) (fun _ => ?_)) <;> conv => whnf))
  exact rfl
end Go.Proofs.YtaadeobcnamgdaaGreatDoor
end

section
/- Line graphs: plain laws. -/
namespace Go.Gr

def pairUp : List Int → List Edg
  | [] => []
  | a :: l => l.map (fun b => ⟨a, b⟩) ++ pairUp l
theorem pairUp_mem : ∀ {l : List Int}, l.Pairwise (· < ·) → ∀ {e : Edg}, e ∈ pairUp l ↔ e.a ∈ l ∧ e.b ∈ l ∧ e.a < e.b
  | [], _, e => by simp [pairUp]
  | x :: l, h, e => by
    have g := List.pairwise_cons.1 h
    simp only [pairUp, List.mem_append, List.mem_map, pairUp_mem g.2, List.mem_cons]
    constructor
    · rintro (⟨b, hb, rfl⟩ | ⟨h1, h2, h3⟩)
      · exact ⟨.inl rfl, .inr hb, g.1 b hb⟩
      · exact ⟨.inr h1, .inr h2, h3⟩
    · rintro ⟨h1 | h1, h2 | h2, h3⟩
      · omega
      · exact .inl ⟨e.b, h2, by cases e; simp_all⟩
      · have := g.1 _ h1; omega
      · exact .inr ⟨h1, h2, h3⟩
theorem pairUp_nodup : ∀ {l : List Int}, l.Pairwise (· < ·) → (pairUp l).Nodup
  | [], _ => by simp [pairUp]
  | x :: l, h => by
    have g := List.pairwise_cons.1 h
    simp only [pairUp]
    rw [List.nodup_append]
    refine ⟨?_, pairUp_nodup g.2, ?_⟩
    · have hn : l.Nodup := g.2.imp (fun h => by omega)
      unfold List.Nodup
      rw [List.pairwise_map]
      exact hn.imp fun h e => h (by cases e; rfl)
    · intro a ha b hb e
      subst e
      obtain ⟨y, hy, rfl⟩ := List.mem_map.1 ha
      have := (pairUp_mem g.2).1 hb
      have := g.1 _ this.1
      simp only at this
      omega
def pairsN (d : Nat) : Nat := d * (d - 1) / 2
theorem pairsN_succ (d : Nat) : pairsN (d + 1) = d + pairsN d := by
  unfold pairsN
  cases d with
  | zero => rfl
  | succ d =>
    simp only [Nat.add_sub_cancel]
    have h : (d + 1 + 1) * (d + 1) = (d + 1) * 2 + (d + 1) * d := by
      rw [← Nat.mul_add, Nat.mul_comm, Nat.add_comm 2 d]
    rw [h, Nat.add_comm, Nat.add_mul_div_right _ _ (by omega)]
    omega
theorem pairUp_len : ∀ l : List Int, (pairUp l).length = pairsN l.length
  | [] => rfl
  | x :: l => by
    simp only [pairUp, List.length_append, List.length_map, pairUp_len l, List.length_cons, pairsN_succ]

theorem strict_mem_eq : ∀ {l1 l2 : List Edg}, Strict l1 → Strict l2 → (∀ x, x ∈ l1 ↔ x ∈ l2) → l1 = l2 := by
  intro l1 l2 h1 h2 h
  refine strict_eq ?_ h1 h2
  have n1 := h1.nodup
  have n2 := h2.nodup
  exact (List.perm_ext_iff_of_nodup n1 n2).2 h

/-! ### which edges touch -/
def tch (E : List Edg) (i j : Nat) : Bool := match E[i]?, E[j]? with
  | some x, some y => decide (i ≠ j) && (decide (x.a = y.a) || decide (x.a = y.b) || decide (x.b = y.a) || decide (x.b = y.b))
  | _, _ => false
def rowW (E : List Edg) (a k : Nat) : List Edg := ((List.range k).filter (fun b : Nat => decide (a < b) && tch E a b)).map fun b : Nat => ⟨(a : Int), (b : Int)⟩
def wantW (E : List Edg) (k : Nat) : List Edg := (List.range k).flatMap fun a => rowW E a E.length
theorem wantW_step (E : List Edg) (k : Nat) : wantW E (k + 1) = wantW E k ++ rowW E k E.length := by
  simp [wantW, List.range_succ]
theorem mem_rowW {E : List Edg} {a k : Nat} {e : Edg} : e ∈ rowW E a k ↔ ∃ b : Nat, b < k ∧ a < b ∧ tch E a b = true ∧ e = ⟨(a : Int), (b : Int)⟩ := by
  simp only [rowW, List.mem_map, List.mem_filter, List.mem_range, Bool.and_eq_true, decide_eq_true_eq]
  constructor
  · rintro ⟨b, ⟨h1, h2, h3⟩, rfl⟩; exact ⟨b, h1, h2, h3, rfl⟩
  · rintro ⟨b, h1, h2, h3, rfl⟩; exact ⟨b, ⟨h1, h2, h3⟩, rfl⟩
theorem mem_wantW {E : List Edg} {k : Nat} {e : Edg} : e ∈ wantW E k ↔ ∃ a b : Nat, a < k ∧ b < E.length ∧ a < b ∧ tch E a b = true ∧ e = ⟨(a : Int), (b : Int)⟩ := by
  simp only [wantW, List.mem_flatMap, List.mem_range, mem_rowW]
  constructor
  · rintro ⟨a, ha, b, h1, h2, h3, rfl⟩; exact ⟨a, b, ha, h1, h2, h3, rfl⟩
  · rintro ⟨a, b, ha, h1, h2, h3, rfl⟩; exact ⟨a, ha, b, h1, h2, h3, rfl⟩
theorem rowW_strict (E : List Edg) (a k : Nat) : Strict (rowW E a k) := by
  unfold rowW Strict
  rw [List.pairwise_map]
  refine (List.pairwise_lt_range.filter _).imp fun h => ?_
  rw [cmpE_lt]
  exact .inr ⟨rfl, Int.ofNat_lt.2 h⟩
theorem wantW_strict (E : List Edg) (k : Nat) : Strict (wantW E k) := by
  induction k with
  | zero => exact List.Pairwise.nil
  | succ k ih =>
    rw [wantW_step]
    unfold Strict
    rw [List.pairwise_append]
    refine ⟨ih, rowW_strict _ _ _, fun x hx y hy => ?_⟩
    obtain ⟨a, b, h1, h2, h3, h4, rfl⟩ := mem_wantW.1 hx
    obtain ⟨c, h5, h6, h7, rfl⟩ := mem_rowW.1 hy
    rw [cmpE_lt]; simp only; omega
theorem mem_atD {E : List Edg} {v : Nat} {x : Int} : x ∈ atD E v ↔ ∃ (i : Nat) (e : Edg), x = (i : Int) ∧ E[i]? = some e ∧ (e.a = v ∨ e.b = v) := by
  simp only [atD, List.mem_map, List.mem_filter, decide_eq_true_eq]
  constructor
  · rintro ⟨p, ⟨h1, h2⟩, rfl⟩
    exact ⟨p.2, p.1, rfl, List.mem_zipIdx_iff_getElem?.1 h1, h2⟩
  · rintro ⟨i, e, rfl, h1, h2⟩
    exact ⟨(e, i), ⟨List.mem_zipIdx_iff_getElem?.2 h1, h2⟩, rfl⟩
theorem atD_rise (E : List Edg) (v : Nat) : (atD E v).Pairwise (· < ·) := zipIdx_rise _ _
/-- the pairs as they are found, vertex by vertex -/
def pairsOf (E : List Edg) (n : Nat) : List Edg := (List.range n).flatMap fun v => pairUp (atD E v)
theorem pairsOf_step (E : List Edg) (n : Nat) : pairsOf E (n + 1) = pairsOf E n ++ pairUp (atD E n) := by simp [pairsOf, List.range_succ]
theorem mem_pairUp_at {E : List Edg} {v : Nat} {e : Edg} : e ∈ pairUp (atD E v) ↔ ∃ (i j : Nat) (x y : Edg), e = ⟨(i : Int), (j : Int)⟩ ∧ i < j ∧ E[i]? = some x ∧ E[j]? = some y ∧ (x.a = v ∨ x.b = v) ∧ (y.a = v ∨ y.b = v) := by
  rw [pairUp_mem (atD_rise E v), mem_atD, mem_atD]
  constructor
  · rintro ⟨⟨i, x, h1, h2, h3⟩, ⟨j, y, h4, h5, h6⟩, h7⟩
    exact ⟨i, j, x, y, by cases e; simp_all, by omega, h2, h5, h3, h6⟩
  · rintro ⟨i, j, x, y, rfl, h1, h2, h3, h4, h5⟩
    exact ⟨⟨i, x, rfl, h2, h4⟩, ⟨j, y, rfl, h3, h5⟩, by simp only; omega⟩
/-- two edges share one vertex at most -/
theorem one_share {G : Gr} (h : G.Ok) {i j : Nat} {x y : Edg} (hi : G.edges[i]? = some x) (hj : G.edges[j]? = some y) (hij : i < j) {u v : Nat} (h1 : x.a = u ∨ x.b = u) (h2 : y.a = u ∨ y.b = u) (h3 : x.a = v ∨ x.b = v) (h4 : y.a = v ∨ y.b = v) : u = v := by
  obtain ⟨l1, e1⟩ := List.getElem?_eq_some_iff.1 hi
  obtain ⟨l2, e2⟩ := List.getElem?_eq_some_iff.1 hj
  have hs := List.pairwise_iff_getElem.1 h.sorted i j l1 l2 hij
  rw [e1, e2, cmpE_lt] at hs
  have hx := h.edge x (List.mem_of_getElem? hi)
  have hy := h.edge y (List.mem_of_getElem? hj)
  omega
theorem pairsOf_nodup {G : Gr} (h : G.Ok) (n : Nat) : (pairsOf G.edges n).Nodup := by
  induction n with
  | zero => simp [pairsOf]
  | succ n ih =>
    rw [pairsOf_step, List.nodup_append]
    refine ⟨ih, pairUp_nodup (atD_rise _ _), fun a ha b hb e => ?_⟩
    subst e
    simp only [pairsOf, List.mem_flatMap, List.mem_range] at ha
    obtain ⟨v, hv, ha⟩ := ha
    obtain ⟨i, j, x, y, rfl, h1, h2, h3, h4, h5⟩ := mem_pairUp_at.1 ha
    obtain ⟨i', j', x', y', he, h1', h2', h3', h4', h5'⟩ := mem_pairUp_at.1 hb
    simp only [Edg.mk.injEq, Int.natCast_inj] at he
    obtain ⟨rfl, rfl⟩ := he
    rw [h2] at h2'; rw [h3] at h3'
    cases h2'; cases h3'
    have := one_share h h2 h3 h1 h4 h5 h4' h5'
    omega
theorem mem_pairsOf {G : Gr} (h : G.Ok) {e : Edg} : e ∈ pairsOf G.edges G.labels.length ↔ e ∈ wantW G.edges G.edges.length := by
  simp only [pairsOf, List.mem_flatMap, List.mem_range, mem_pairUp_at, mem_wantW]
  constructor
  · rintro ⟨v, hv, i, j, x, y, rfl, h1, h2, h3, h4, h5⟩
    have l1 := (List.getElem?_eq_some_iff.1 h2).1
    have l2 := (List.getElem?_eq_some_iff.1 h3).1
    refine ⟨i, j, l1, l2, h1, ?_, rfl⟩
    unfold tch
    rw [h2, h3]
    have : i ≠ j := by omega
    simp only [this, ne_eq, not_false_eq_true, decide_true, Bool.true_and, Bool.or_eq_true, decide_eq_true_eq]
    omega
  · rintro ⟨i, j, l1, l2, h1, ht, rfl⟩
    unfold tch at ht
    have hx := List.getElem?_eq_getElem l1
    have hy := List.getElem?_eq_getElem l2
    rw [hx, hy] at ht
    simp only [Bool.and_eq_true, Bool.or_eq_true, decide_eq_true_eq] at ht
    have ex := h.edge _ (List.getElem_mem l1)
    have ey := h.edge _ (List.getElem_mem l2)
    generalize G.edges[i] = x at *
    generalize G.edges[j] = y at *
    have key : ∀ v : Int, 0 ≤ v → v < G.labels.length → (x.a = v ∨ x.b = v) → (y.a = v ∨ y.b = v) → ∃ a : Nat, a < G.labels.length ∧ ∃ (i_1 j_1 : Nat) (x y : Edg), (⟨(i : Int), (j : Int)⟩ : Edg) = ⟨(i_1 : Int), (j_1 : Int)⟩ ∧ i_1 < j_1 ∧ G.edges[i_1]? = some x ∧ G.edges[j_1]? = some y ∧ (x.a = (a : Int) ∨ x.b = (a : Int)) ∧ (y.a = (a : Int) ∨ y.b = (a : Int)) := by
      intro v h0 hn g1 g2
      obtain ⟨m, rfl⟩ := Int.eq_ofNat_of_zero_le h0
      exact ⟨m, by omega, i, j, x, y, rfl, h1, hx, hy, g1, g2⟩
    obtain ⟨_, ((h | h) | h) | h⟩ := ht
    · exact key x.a (by omega) (by omega) (.inl rfl) (.inl h.symm)
    · exact key x.a (by omega) (by omega) (.inl rfl) (.inr h.symm)
    · exact key x.b (by omega) (by omega) (.inr rfl) (.inl h.symm)
    · exact key x.b (by omega) (by omega) (.inr rfl) (.inr h.symm)
theorem pairsOf_le {G : Gr} (h : G.Ok) {e : Edg} (he : e ∈ pairsOf G.edges G.labels.length) : 0 ≤ e.a ∧ e.a < e.b ∧ e.b < G.edges.length := by
  rw [mem_pairsOf h, mem_wantW] at he
  obtain ⟨i, j, h1, h2, h3, _, rfl⟩ := he
  exact ⟨by simp only; omega, by simp only; omega, by simp only; omega⟩
theorem map_turn_le {l : List Edg} (h : ∀ e ∈ l, e.a ≤ e.b) : l.map turn = l := by
  induction l with
  | nil => rfl
  | cons e l ih => rw [List.map_cons, turn_le (h e (by simp)), ih fun x hx => h x (by simp [hx])]
/-- of a line graph's edges: no fault -/
theorem lines_newErr {G : Gr} (h : G.Ok) (hm : G.edges.length ≤ 4096) (hp : (pairsOf G.edges G.labels.length).length ≤ 16384) : newErr (List.replicate G.edges.length 0) (pairsOf G.edges G.labels.length) = none := by
  refine newErr_none (by rw [List.length_replicate]; omega) (fun x hx => by rw [(List.mem_replicate.1 hx).2]; rfl) fun j hj => ?_
  unfold ecodeAt
  rw [List.getElem?_eq_getElem hj]
  simp only [ecode, List.length_replicate]
  have he := pairsOf_le h (List.getElem_mem hj)
  have hnd := pairsOf_nodup h G.labels.length
  have hmt : ((pairsOf G.edges G.labels.length).take j).map turn = (pairsOf G.edges G.labels.length).take j := map_turn_le fun e he => by
    have := pairsOf_le h (List.mem_of_mem_take he); omega
  rw [hmt]
  have hnot : turn (pairsOf G.edges G.labels.length)[j] ∉ (pairsOf G.edges G.labels.length).take j := by
    rw [turn_le (by omega)]
    intro hmem
    obtain ⟨k, hk, e⟩ := List.mem_take_iff_getElem.1 hmem
    have h2 := (List.pairwise_iff_getElem.1 hnd) k j (by omega) hj (by omega)
    exact h2 e
  rw [if_neg (by omega), if_neg (by omega), if_neg hnot]
theorem lines_canon {G : Gr} (h : G.Ok) : canon (pairsOf G.edges G.labels.length) = wantW G.edges G.edges.length := by
  have hmt : (pairsOf G.edges G.labels.length).map turn = pairsOf G.edges G.labels.length := map_turn_le fun e he => by
    have := pairsOf_le h he; omega
  refine strict_mem_eq ?_ (wantW_strict _ _) fun x => ?_
  · refine strict_of ((canon_perm _).nodup_iff.2 ?_) (canon_sorted _)
    rw [hmt]; exact pairsOf_nodup h _
  · rw [(canon_perm _).mem_iff, hmt, mem_pairsOf h]
theorem atD_len (E : List Edg) (v : Nat) (h : ∀ e ∈ E, e.a ≠ e.b) : (atD E v).length = deg E v := by
  have key : ∀ (E : List Edg), (∀ e ∈ E, e.a ≠ e.b) → ∀ k, ((E.zipIdx k).filter fun p => decide (p.1.a = (v : Int) ∨ p.1.b = (v : Int))).length = (lessOf E v).length + (moreOf E v).length := by
    intro E
    induction E with
    | nil => intro _ k; rfl
    | cons e E ih =>
      intro h k
      have := ih (fun x hx => h x (by simp [hx])) (k + 1)
      have hne := h e (by simp)
      simp only [List.zipIdx_cons, List.filter_cons, lessOf, moreOf] at this ⊢
      by_cases h1 : e.a = (v : Int) <;> by_cases h2 : e.b = (v : Int)
      · omega
      · have e1 : (decide (e.a = (v : Int) ∨ e.b = (v : Int))) = true := by simp [h1]
        rw [e1]; simp only [h1, h2, decide_true, decide_false, if_true, if_false, List.length_cons, List.map_cons, Bool.false_eq_true]; omega
      · have e1 : (decide (e.a = (v : Int) ∨ e.b = (v : Int))) = true := by simp [h2]
        rw [e1]; simp only [h1, h2, decide_true, decide_false, if_true, if_false, List.length_cons, List.map_cons, Bool.false_eq_true]; omega
      · have e1 : (decide (e.a = (v : Int) ∨ e.b = (v : Int))) = false := by simp [h1, h2]
        rw [e1]; simp only [h1, h2, decide_false, if_false, Bool.false_eq_true]; omega
  unfold atD deg nearOf
  rw [List.length_map, List.length_append]
  exact key E h 0
end Go.Gr
end
