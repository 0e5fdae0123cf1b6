/- Line graphs: plain laws: degrees, vertices with edges. -/
import Derived.Test.YtmkbgbnehokmmaaDoorLna
import Derived.Test.YtmkbgbnehokmmaaDoorLnf
namespace Go.Gr
theorem tch_sym (E : List Edg) (i j : Nat) : tch E i j = tch E j i := by
  unfold tch
  cases E[i]? with
  | none => cases E[j]? <;> rfl
  | some x =>
    cases E[j]? with
    | none => rfl
    | some y =>
      rw [Bool.eq_iff_iff]
      simp only [Bool.and_eq_true, Bool.or_eq_true, decide_eq_true_eq]
      constructor
      · rintro ⟨h, h2⟩; exact ⟨fun e => h e.symm, by omega⟩
      · rintro ⟨h, h2⟩; exact ⟨fun e => h e.symm, by omega⟩
theorem tch_self (E : List Edg) (i : Nat) : tch E i i = false := by
  unfold tch
  cases E[i]? <;> simp
def lnGr (G : Gr) : Gr := ⟨List.replicate G.edges.length 0, wantW G.edges G.edges.length⟩
theorem lnGr_ok {G : Gr} (h : G.Ok) (hm : G.edges.length ≤ 4096) (hp : (pairsOf G.edges G.labels.length).length ≤ 16384) : (lnGr G).Ok := by
  have := canon_ok (lines_newErr h hm hp)
  rwa [lines_canon h] at this
theorem near_ln {G : Gr} (h : (lnGr G).Ok) {i : Nat} (hi : i < G.edges.length) : (nearOf (lnGr G).edges i).length = ((List.range G.edges.length).filter (tch G.edges i)).length := by
  rw [near_doc h]
  unfold nearD
  rw [List.length_map]
  have e : (lnGr G).labels.length = G.edges.length := by simp [lnGr]
  rw [e]
  congr 1
  refine List.filter_congr fun u hu => ?_
  have hum := List.mem_range.1 hu
  rw [Bool.eq_iff_iff, decide_eq_true_eq]
  show turn ⟨(u : Int), (i : Int)⟩ ∈ wantW G.edges G.edges.length ↔ _
  rw [mem_wantW]
  rcases Nat.lt_trichotomy u i with hlt | heq | hgt
  · rw [turn_le (by simp only; omega)]
    constructor
    · rintro ⟨a, b, _, _, _, ht, he⟩
      simp only [Edg.mk.injEq, Int.natCast_inj] at he
      obtain ⟨rfl, rfl⟩ := he
      rw [tch_sym]; exact ht
    · intro ht
      exact ⟨u, i, hum, hi, hlt, by rw [tch_sym]; exact ht, rfl⟩
  · subst heq
    rw [tch_self]
    constructor
    · rintro ⟨a, b, _, _, hab, _, he⟩
      rw [turn_le (by simp only; omega)] at he
      simp only [Edg.mk.injEq, Int.natCast_inj] at he
      omega
    · intro h; cases h
  · rw [turn_sym, turn_le (by simp only; omega)]
    constructor
    · rintro ⟨a, b, _, _, _, ht, he⟩
      simp only [Edg.mk.injEq, Int.natCast_inj] at he
      obtain ⟨rfl, rfl⟩ := he
      exact ht
    · intro ht
      exact ⟨i, u, hi, hum, hgt, ht, rfl⟩
def has1 (v : Int) (e : Edg) : Bool := decide (e.a = v) || decide (e.b = v)
theorem has1_len (E : List Edg) (v : Nat) (h : ∀ e ∈ E, e.a ≠ e.b) : (E.filter (has1 v)).length = deg E v := by
  unfold deg nearOf lessOf moreOf
  rw [List.length_append, List.length_map, List.length_map]
  induction E with
  | nil => rfl
  | cons e E ih =>
    have := ih (fun x hx => h x (by simp [hx]))
    have hne := h e (by simp)
    simp only [List.filter_cons, has1] at this ⊢
    by_cases h1 : e.a = (v : Int) <;> by_cases h2 : e.b = (v : Int)
    · omega
    · simp only [h1, h2, decide_true, decide_false, Bool.true_or, Bool.or_false, if_true, if_false, List.length_cons, Bool.false_eq_true]; omega
    · simp only [h1, h2, decide_true, decide_false, Bool.or_true, Bool.or_false, if_true, if_false, List.length_cons, Bool.false_eq_true]; omega
    · simp only [h1, h2, decide_false, Bool.or_false, if_false, Bool.false_eq_true]; exact this
theorem tch_count {G : Gr} (h : G.Ok) {i : Nat} {a b : Nat} (hi : G.edges[i]? = some ⟨(a : Int), (b : Int)⟩) (k : Nat) (hk : k ≤ G.edges.length) :
    ((List.range k).filter (tch G.edges i)).length + (if i < k then 2 else 0) = ((G.edges.take k).filter (has1 a)).length + ((G.edges.take k).filter (has1 b)).length := by
  induction k with
  | zero => simp
  | succ k ih =>
    have hlt : k < G.edges.length := by omega
    have hy := List.getElem?_eq_getElem hlt
    generalize G.edges[k] = y at hy
    rw [List.range_succ, List.filter_append, List.length_append, take_snoc hy, List.filter_append, List.filter_append, List.length_append, List.length_append]
    have ih := ih (by omega)
    have hfa : ∀ v : Int, ([y].filter (has1 v)).length = if y.a = v ∨ y.b = v then 1 else 0 := fun v => by
      by_cases h1 : y.a = v <;> by_cases h2 : y.b = v <;> simp [has1, h1, h2]
    have hft : ([k].filter (tch G.edges i)).length = if tch G.edges i k = true then 1 else 0 := by
      cases ht : tch G.edges i k <;> simp [ht]
    rw [hfa, hfa, hft]
    by_cases hik : i = k
    · subst hik
      rw [hi] at hy
      cases hy
      rw [tch_self]
      simp only [Nat.lt_irrefl, if_false, true_or, or_true, if_true, Nat.lt_succ_self, Bool.false_eq_true] at ih ⊢
      omega
    · have ht : tch G.edges i k = true ↔ ((y.a = a ∨ y.b = a) ∨ (y.a = b ∨ y.b = b)) := by
        unfold tch
        rw [hi, hy]
        simp only [Bool.and_eq_true, Bool.or_eq_true, decide_eq_true_eq]
        constructor
        · rintro ⟨_, h2⟩; omega
        · intro h2; exact ⟨hik, by omega⟩
      have hnot : ¬ ((y.a = a ∨ y.b = a) ∧ (y.a = b ∨ y.b = b)) := by
        rintro ⟨h1, h2⟩
        have hab := h.edge _ (List.mem_of_getElem? hi)
        simp only at hab
        rcases Nat.lt_or_ge i k with hlt | hge
        · have := one_share h hi hy hlt (u := a) (v := b) (.inl rfl) h1 (.inr rfl) h2; omega
        · have := one_share h hy hi (by omega) (u := a) (v := b) h1 (.inl rfl) h2 (.inr rfl); omega
      have hlk : (if i < k + 1 then 2 else 0) = (if i < k then 2 else 0) := by
        by_cases h1 : i < k
        · rw [if_pos h1, if_pos (by omega)]
        · rw [if_neg h1, if_neg (by omega)]
      rw [hlk]
      by_cases q1 : y.a = a ∨ y.b = a
      · have q2 : ¬ (y.a = b ∨ y.b = b) := fun q => hnot ⟨q1, q⟩
        rw [if_pos (ht.2 (.inl q1)), if_pos q1, if_neg q2]; omega
      · by_cases q2 : y.a = b ∨ y.b = b
        · rw [if_pos (ht.2 (.inr q2)), if_neg q1, if_pos q2]; omega
        · rw [if_neg (fun hh => (ht.1 hh).elim q1 q2), if_neg q1, if_neg q2]; omega
theorem deg_ln {G : Gr} (h : G.Ok) (hl : (lnGr G).Ok) {i : Nat} {a b : Nat} (hi : G.edges[i]? = some ⟨(a : Int), (b : Int)⟩) : deg (lnGr G).edges i + 2 = deg G.edges a + deg G.edges b := by
  have hlt := (List.getElem?_eq_some_iff.1 hi).1
  have hne : ∀ e ∈ G.edges, e.a ≠ e.b := fun e he => by have := h.edge e he; omega
  have := tch_count h hi G.edges.length (Nat.le_refl _)
  rw [if_pos hlt, List.take_length, has1_len _ _ hne, has1_len _ _ hne, ← near_ln hl hlt] at this
  exact this
/-! ### vertices with edges -/
theorem mem_addN {out : List Int} {x y : Int} : y ∈ addN out x ↔ y ∈ out ∨ y = x := by
  unfold addN
  split
  · rename_i h
    constructor
    · exact .inl
    · rintro (h2 | rfl)
      · exact h2
      · exact h
  · simp
theorem addN_nodup {out : List Int} (h : out.Nodup) (x : Int) : (addN out x).Nodup := by
  unfold addN
  split
  · exact h
  · rename_i hx
    rw [List.nodup_append]
    exact ⟨h, by simp, fun a ha b hb e => by simp at hb; subst hb; subst e; exact hx ha⟩
theorem vertsOf_spec (l : List Edg) : (vertsOf l).Nodup ∧ ∀ x, x ∈ vertsOf l ↔ ∃ e ∈ l, x = e.a ∨ x = e.b := by
  suffices h : ∀ l : List Edg, (vertsOf l.reverse).Nodup ∧ ∀ x, x ∈ vertsOf l.reverse ↔ ∃ e ∈ l.reverse, x = e.a ∨ x = e.b by have := h l.reverse; rwa [List.reverse_reverse] at this
  intro l
  induction l with
  | nil => simp [vertsOf]
  | cons e l ih =>
    rw [List.reverse_cons, vertsOf_snoc]
    refine ⟨addN_nodup (addN_nodup ih.1 _) _, fun x => ?_⟩
    rw [mem_addN, mem_addN, ih.2]
    constructor
    · rintro ((⟨z, hz, h⟩ | h) | h)
      · exact ⟨z, by simp at hz ⊢; exact .inl hz, h⟩
      · exact ⟨e, by simp, .inl h⟩
      · exact ⟨e, by simp, .inr h⟩
    · rintro ⟨z, hz, h⟩
      rcases List.mem_append.1 hz with hz | hz
      · exact .inl (.inl ⟨z, hz, h⟩)
      · simp at hz; subst hz
        rcases h with h | h
        · exact .inl (.inr h)
        · exact .inr h
def withE (E : List Edg) (k : Nat) : Nat := ((List.range k).filter fun v => decide (0 < deg E v)).length
theorem withE_step (E : List Edg) (k : Nat) : withE E (k + 1) = withE E k + (if 0 < deg E k then 1 else 0) := by
  unfold withE
  rw [List.range_succ, List.filter_append, List.length_append]
  congr 1
  by_cases h : 0 < deg E k <;> simp [h]
theorem withE_le (E : List Edg) (k : Nat) : withE E k ≤ k := by
  unfold withE
  have := List.length_filter_le (fun v => decide (0 < deg E v)) (List.range k)
  rwa [List.length_range] at this
theorem deg_pos {E : List Edg} {v : Nat} : 0 < deg E v ↔ ∃ e ∈ E, (v : Int) = e.a ∨ (v : Int) = e.b := by
  unfold deg nearOf
  rw [List.length_append]
  constructor
  · intro h
    rcases Nat.eq_zero_or_pos (lessOf E v).length with h0 | h0
    · obtain ⟨x, hx⟩ := List.exists_mem_of_length_pos (show 0 < (moreOf E v).length by omega)
      exact ⟨_, mem_moreOf.1 hx, .inl rfl⟩
    · obtain ⟨x, hx⟩ := List.exists_mem_of_length_pos h0
      exact ⟨_, mem_lessOf.1 hx, .inr rfl⟩
  · rintro ⟨e, he, h | h⟩
    · have : e.b ∈ moreOf E v := mem_moreOf.2 (by rw [h]; exact he)
      have := List.length_pos_of_mem this; omega
    · have : e.a ∈ lessOf E v := mem_lessOf.2 (by rw [h]; exact he)
      have := List.length_pos_of_mem this; omega
theorem verts_all {G : Gr} (h : G.Ok) : (vertsOf G.edges).length = withE G.edges G.labels.length := by
  obtain ⟨h1, h2⟩ := vertsOf_spec G.edges
  have h3 : (((List.range G.labels.length).filter fun v => decide (0 < deg G.edges v)).map fun v : Nat => (v : Int)).Nodup := (range_rise _ _).imp fun h => by omega
  have hp : (vertsOf G.edges).Perm (((List.range G.labels.length).filter fun v => decide (0 < deg G.edges v)).map fun v : Nat => (v : Int)) := by
    refine (List.perm_ext_iff_of_nodup h1 h3).2 fun x => ?_
    rw [h2]
    simp only [List.mem_map, List.mem_filter, List.mem_range, decide_eq_true_eq]
    constructor
    · rintro ⟨e, he, hx⟩
      have hb := h.edge e he
      obtain ⟨m, rfl⟩ := Int.eq_ofNat_of_zero_le (show 0 ≤ x by omega)
      exact ⟨m, ⟨by omega, deg_pos.2 ⟨e, he, hx⟩⟩, rfl⟩
    · rintro ⟨m, ⟨_, hd⟩, rfl⟩
      exact deg_pos.1 hd
  rw [hp.length_eq, List.length_map]
  rfl
def upto (k : Nat) : List Int := (List.range k).map fun v : Nat => (v : Int)
theorem upto_succ (k : Nat) : upto (k + 1) = upto k ++ [(k : Int)] := by simp [upto, List.range_succ]
theorem upto_len (k : Nat) : (upto k).length = k := by simp [upto]
theorem mem_upto {k : Nat} {x : Int} : x ∈ upto k ↔ 0 ≤ x ∧ x < k := by
  simp only [upto, List.mem_map, List.mem_range]
  constructor
  · rintro ⟨v, h, rfl⟩; omega
  · rintro ⟨h1, h2⟩
    obtain ⟨m, rfl⟩ := Int.eq_ofNat_of_zero_le h1
    exact ⟨m, by omega, rfl⟩
theorem ends_upto (E : List Edg) {k : Nat} (hk : k ≤ E.length) : endsOf E (upto k) = E.take k := by
  induction k with
  | zero => rfl
  | succ k ih =>
    have hy := List.getElem?_eq_getElem (show k < E.length by omega)
    rw [upto_succ, endsOf_in hy, ih (by omega), ← take_snoc hy]
theorem span_all {G : Gr} (h : G.Ok) {k : Nat} (hk : k ≤ G.edges.length) : spanOf G.edges (upto G.labels.length) k = upto k := by
  induction k with
  | zero => rfl
  | succ k ih =>
    have hy := List.getElem?_eq_getElem (show k < G.edges.length by omega)
    have hb := h.edge _ (List.getElem_mem (show k < G.edges.length by omega))
    rw [spanOf_step hy, ih (by omega), upto_succ, if_pos]
    simp only [inB, Bool.and_eq_true, decide_eq_true_eq, mem_upto]
    omega
end Go.Gr
