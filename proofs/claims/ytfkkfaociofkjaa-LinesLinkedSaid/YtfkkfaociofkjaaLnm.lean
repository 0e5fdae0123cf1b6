/- Line graphs: plain laws: which lists of edges are linked. -/
import Derived.Test.YtfkkfaociofkjaaLnp
import Derived.Test.YtfkkfaociofkjaaVlb
namespace Go.Proofs.Ytfkkfaociofkjaa
open Go.Gr
theorem mem_endsOf {E : List Edg} {l : List Int} {e : Edg} : e ∈ endsOf E l ↔ ∃ m : Nat, (m : Int) ∈ l ∧ E[m]? = some e := by
  simp only [endsOf, List.mem_filterMap]
  constructor
  · rintro ⟨x, hx, h⟩
    split at h
    · rename_i hr
      obtain ⟨m, rfl⟩ := Int.eq_ofNat_of_zero_le hr.1
      exact ⟨m, hx, by simpa using h⟩
    · cases h
  · rintro ⟨m, hm, h⟩
    have := (List.getElem?_eq_some_iff.1 h).1
    exact ⟨m, hm, by rw [if_pos ⟨by omega, by omega⟩, Int.toNat_natCast]; exact h⟩
theorem turn_nat {u m : Nat} (h : u ≠ m) : (u < m ∧ turn ⟨(u : Int), (m : Int)⟩ = ⟨(u : Int), (m : Int)⟩) ∨ (m < u ∧ turn ⟨(u : Int), (m : Int)⟩ = ⟨(m : Int), (u : Int)⟩) := by
  rcases Nat.lt_or_gt_of_ne h with h | h
  · exact .inl ⟨h, by unfold turn; simp only [Edg.mk.injEq]; omega⟩
  · exact .inr ⟨h, by unfold turn; simp only [Edg.mk.injEq]; omega⟩
theorem turn_want {E : List Edg} {u m : Nat} (h : u ≠ m) (hu : u < E.length) (hm : m < E.length) : turn ⟨(u : Int), (m : Int)⟩ ∈ wantW E E.length ↔ tch E u m = true := by
  rw [mem_wantW]
  rcases turn_nat h with ⟨h1, h2⟩ | ⟨h1, h2⟩ <;> rw [h2]
  · constructor
    · rintro ⟨a, b, _, _, _, ht, e⟩
      simp only [Edg.mk.injEq] at e
      rw [show u = a by omega, show m = b by omega]; exact ht
    · exact fun ht => ⟨u, m, hu, hm, h1, ht, rfl⟩
  · constructor
    · rintro ⟨a, b, _, _, _, ht, e⟩
      simp only [Edg.mk.injEq] at e
      rw [show m = a by omega, show u = b by omega, tch_sym]; exact ht
    · exact fun ht => ⟨m, u, hm, hu, h1, by rw [tch_sym]; exact ht, rfl⟩
/-- a vertex of an edge stood ahead just if it touches one that did -/
theorem ahead_iff {G : Gr} {t : List Int} {m : Nat} {x : Edg} (hx : G.edges[m]? = some x) (hm : ¬ (m : Int) ∈ t) (ht : ∀ u ∈ t, 0 ≤ u ∧ u < G.edges.length) :
    (x.a ∈ vertsOf (endsOf G.edges t) ∨ x.b ∈ vertsOf (endsOf G.edges t)) ↔ t.any (besP (lnGr G).edges m) = true := by
  have hml := (List.getElem?_eq_some_iff.1 hx).1
  rw [(vertsOf_spec _).2, (vertsOf_spec _).2, List.any_eq_true]
  simp only [besP, decide_eq_true_eq]
  constructor
  · rintro (⟨e, he, h⟩ | ⟨e, he, h⟩)
    · obtain ⟨u, hu, hue⟩ := mem_endsOf.1 he
      have hne : u ≠ m := fun e => hm (e ▸ hu)
      refine ⟨u, hu, (turn_want hne (List.getElem?_eq_some_iff.1 hue).1 hml).2 ?_⟩
      simp only [tch, hue, hx, Bool.and_eq_true, Bool.or_eq_true, decide_eq_true_eq]
      exact ⟨hne, by omega⟩
    · obtain ⟨u, hu, hue⟩ := mem_endsOf.1 he
      have hne : u ≠ m := fun e => hm (e ▸ hu)
      refine ⟨u, hu, (turn_want hne (List.getElem?_eq_some_iff.1 hue).1 hml).2 ?_⟩
      simp only [tch, hue, hx, Bool.and_eq_true, Bool.or_eq_true, decide_eq_true_eq]
      exact ⟨hne, by omega⟩
  · rintro ⟨u, hu, h⟩
    obtain ⟨u, rfl⟩ := Int.eq_ofNat_of_zero_le (ht u hu).1
    have hul : u < G.edges.length := by have := (ht u hu).2; omega
    have hne : u ≠ m := fun e => hm (e ▸ hu)
    have h := (turn_want hne hul hml).1 h
    have hue := List.getElem?_eq_getElem hul
    generalize G.edges[u] = e at hue
    have he : e ∈ endsOf G.edges t := mem_endsOf.2 ⟨u, hu, hue⟩
    simp only [tch, hue, hx, Bool.and_eq_true, Bool.or_eq_true, decide_eq_true_eq] at h
    rcases h.2 with ((h | h) | h) | h
    · exact .inl ⟨e, he, .inl h.symm⟩
    · exact .inr ⟨e, he, .inl h.symm⟩
    · exact .inl ⟨e, he, .inr h.symm⟩
    · exact .inr ⟨e, he, .inr h.symm⟩
theorem addN_mem {out : List Int} {x : Int} (h : x ∈ out) : addN out x = out := by unfold addN; rw [if_pos h]
/-- the first i of a list -/
def linkN (G : Gr) (l : List Int) (k : Nat) : Bool := (List.range k).all fun i => match l[i]? with
  | some v => linkAt G l i v
  | none => true
theorem linkN_step {G : Gr} {l : List Int} {k : Nat} {v : Int} (h : l[k]? = some v) : linkN G l (k + 1) = (linkN G l k && linkAt G l k v) := by
  simp [linkN, List.range_succ, List.all_append, h]
theorem linkN_all (G : Gr) (l : List Int) : linkN G l l.length = linkedV G l := rfl
theorem linkN_bad {G : Gr} {l : List Int} {k : Nat} {v : Int} (h : l[k]? = some v) (h2 : linkAt G l k v = false) : linkedV G l = false := linkedV_no h h2
theorem linkN_pre {G : Gr} {l : List Int} (h : linkedV G l = true) {k : Nat} {v : Int} (hx : l[k]? = some v) : linkAt G l k v = true := by
  cases hh : linkAt G l k v with
  | true => rfl
  | false => rw [linkedV_no hx hh] at h; cases h
/-- the state behind i: all in range, none twice -/
def goodK (E : List Edg) (l : List Int) (k : Nat) : Prop := ∀ (i : Nat) (v : Int), i < k → l[i]? = some v → (0 ≤ v ∧ v < E.length) ∧ ¬ v ∈ l.take i
theorem good_range {E : List Edg} {l : List Int} {k : Nat} (h : goodK E l k) : ∀ u ∈ l.take k, 0 ≤ u ∧ u < E.length := by
  intro u hu
  obtain ⟨i, hi, rfl⟩ := List.mem_take_iff_getElem.1 hu
  exact (h i _ (by omega) (List.getElem?_eq_getElem (by omega))).1
theorem ln_has {G : Gr} {v : Int} : hasV (lnGr G) v = decide (0 ≤ v ∧ v < G.edges.length) := by simp [hasV, lnGr]
theorem linkAt_bad {G : Gr} {l : List Int} {i : Nat} {v : Int} (h : ¬ (0 ≤ v ∧ v < G.edges.length) ∨ v ∈ l.take i) : linkAt (lnGr G) l i v = false := by
  unfold linkAt
  rw [ln_has]
  rcases h with h | h <;> simp [h]
theorem linkAt_good {G : Gr} {l : List Int} {i m : Nat} {x : Edg} (hx : G.edges[m]? = some x) (hm : ¬ (m : Int) ∈ l.take i) (hg : goodK G.edges l i) :
    linkAt (lnGr G) l i m = (decide (i = 0) || (decide (x.a ∈ vertsOf (endsOf G.edges (l.take i))) || decide (x.b ∈ vertsOf (endsOf G.edges (l.take i))))) := by
  have hml := (List.getElem?_eq_some_iff.1 hx).1
  unfold linkAt
  rw [ln_has, decide_eq_true (show 0 ≤ (m : Int) ∧ (m : Int) < G.edges.length by omega), decide_eq_false hm]
  simp only [Bool.not_false, Bool.true_and]
  congr 1
  rw [Bool.eq_iff_iff, ← ahead_iff hx hm (good_range hg)]
  simp
theorem good_step {E : List Edg} {l : List Int} {k : Nat} {v : Int} (h : goodK E l k) (hx : l[k]? = some v) (h1 : 0 ≤ v ∧ v < E.length) (h2 : ¬ v ∈ l.take k) : goodK E l (k + 1) := by
  intro i u hi hu
  by_cases hik : i = k
  · subst hik; rw [hx] at hu; cases hu; exact ⟨h1, h2⟩
  · exact h i u (by omega) hu
theorem good_link {G : Gr} {l : List Int} (h : linkedV (lnGr G) l = true) (k : Nat) : goodK G.edges l k := by
  intro i v hi hx
  have := linkN_pre h hx
  unfold linkAt at this
  rw [ln_has] at this
  simp only [Bool.and_eq_true, decide_eq_true_eq, Bool.not_eq_true', decide_eq_false_iff_not] at this
  exact ⟨this.1, this.2.1⟩
/-- a linked list's vertices: at most one more than its edges -/
theorem verts_link {G : Gr} {l : List Int} (h : linkedV (lnGr G) l = true) : ∀ k : Nat, k ≤ l.length → (vertsOf (endsOf G.edges (l.take k))).length ≤ k + 1 := by
  intro k
  induction k with
  | zero => intro _; simp [endsOf, vertsOf]
  | succ k ih =>
    intro hk
    have ih := ih (by omega)
    have hx := List.getElem?_eq_getElem (l := l) (i := k) (by omega)
    generalize l[k]'(by omega) = v at hx
    obtain ⟨⟨h1, h2⟩, h3⟩ := good_link h (k + 1) k v (by omega) hx
    obtain ⟨m, rfl⟩ := Int.eq_ofNat_of_zero_le h1
    have hml : m < G.edges.length := by omega
    have he := List.getElem?_eq_getElem hml
    generalize G.edges[m] = x at he
    have hl := linkN_pre h hx
    rw [linkAt_good he h3 (good_link h k)] at hl
    rw [List.take_add_one, hx, Option.toList_some, endsOf_in he, vertsOf_snoc]
    have e1 := addN_len (addN (vertsOf (endsOf G.edges (l.take k))) x.a) x.b
    have e2 := addN_len (vertsOf (endsOf G.edges (l.take k))) x.a
    simp only [Bool.or_eq_true, decide_eq_true_eq] at hl
    rcases hl with hl | hl | hl
    · subst hl
      simp only [List.take_zero] at e1 e2 ⊢
      have : (vertsOf (endsOf G.edges [])).length = 0 := by simp [endsOf, vertsOf]
      omega
    · rw [addN_mem hl] at e1 ⊢; omega
    · rw [addN_mem (x := x.b) (mem_addN.2 (.inl hl))] at ⊢; omega
end Go.Proofs.Ytfkkfaociofkjaa
