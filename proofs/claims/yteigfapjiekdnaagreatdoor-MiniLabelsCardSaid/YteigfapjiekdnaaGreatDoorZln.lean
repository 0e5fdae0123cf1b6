/- Merged: Lna Lnb Lnc Lnf. -/
import Derived.Test.YteigfapjiekdnaaGreatDoorGri
import Derived.Test.YteigfapjiekdnaaGreatDoorZat
import Derived.Test.YteigfapjiekdnaaGreatDoorRfa
import Derived.Test.YteigfapjiekdnaaGreatDoorSxu
section
/- Line graphs: plain laws. -/
namespace Go.Gr

def pairUp : List Int → List Edg
  | [] => []
  | a :: l => l.map (fun b => ⟨a, b⟩) ++ pairUp l
theorem pairUp_mem : ∀ {l : List Int}, l.Pairwise (· < ·) → ∀ {e : Edg}, e ∈ pairUp l ↔ e.a ∈ l ∧ e.b ∈ l ∧ e.a < e.b
  | [], _, e => by simp [pairUp]
  | x :: l, h, e => by
    have g := List.pairwise_cons.1 h
    simp only [pairUp, List.mem_append, List.mem_map, pairUp_mem g.2, List.mem_cons]
    constructor
    · rintro (⟨b, hb, rfl⟩ | ⟨h1, h2, h3⟩)
      · exact ⟨.inl rfl, .inr hb, g.1 b hb⟩
      · exact ⟨.inr h1, .inr h2, h3⟩
    · rintro ⟨h1 | h1, h2 | h2, h3⟩
      · omega
      · exact .inl ⟨e.b, h2, by cases e; simp_all⟩
      · have := g.1 _ h1; omega
      · exact .inr ⟨h1, h2, h3⟩
theorem pairUp_nodup : ∀ {l : List Int}, l.Pairwise (· < ·) → (pairUp l).Nodup
  | [], _ => by simp [pairUp]
  | x :: l, h => by
    have g := List.pairwise_cons.1 h
    simp only [pairUp]
    rw [List.nodup_append]
    refine ⟨?_, pairUp_nodup g.2, ?_⟩
    · have hn : l.Nodup := g.2.imp (fun h => by omega)
      unfold List.Nodup
      rw [List.pairwise_map]
      exact hn.imp fun h e => h (by cases e; rfl)
    · intro a ha b hb e
      subst e
      obtain ⟨y, hy, rfl⟩ := List.mem_map.1 ha
      have := (pairUp_mem g.2).1 hb
      have := g.1 _ this.1
      simp only at this
      omega
def pairsN (d : Nat) : Nat := d * (d - 1) / 2
theorem pairsN_succ (d : Nat) : pairsN (d + 1) = d + pairsN d := by
  unfold pairsN
  cases d with
  | zero => rfl
  | succ d =>
    simp only [Nat.add_sub_cancel]
    have h : (d + 1 + 1) * (d + 1) = (d + 1) * 2 + (d + 1) * d := by
      rw [← Nat.mul_add, Nat.mul_comm, Nat.add_comm 2 d]
    rw [h, Nat.add_comm, Nat.add_mul_div_right _ _ (by omega)]
    omega
theorem pairUp_len : ∀ l : List Int, (pairUp l).length = pairsN l.length
  | [] => rfl
  | x :: l => by
    simp only [pairUp, List.length_append, List.length_map, pairUp_len l, List.length_cons, pairsN_succ]

theorem strict_mem_eq : ∀ {l1 l2 : List Edg}, Strict l1 → Strict l2 → (∀ x, x ∈ l1 ↔ x ∈ l2) → l1 = l2 := by
  intro l1 l2 h1 h2 h
  refine strict_eq ?_ h1 h2
  have n1 := h1.nodup
  have n2 := h2.nodup
  exact (List.perm_ext_iff_of_nodup n1 n2).2 h

/-! ### which edges touch -/
def tch (E : List Edg) (i j : Nat) : Bool := match E[i]?, E[j]? with
  | some x, some y => decide (i ≠ j) && (decide (x.a = y.a) || decide (x.a = y.b) || decide (x.b = y.a) || decide (x.b = y.b))
  | _, _ => false
def rowW (E : List Edg) (a k : Nat) : List Edg := ((List.range k).filter (fun b : Nat => decide (a < b) && tch E a b)).map fun b : Nat => ⟨(a : Int), (b : Int)⟩
def wantW (E : List Edg) (k : Nat) : List Edg := (List.range k).flatMap fun a => rowW E a E.length
theorem rowW_step (E : List Edg) (a k : Nat) : rowW E a (k + 1) = rowW E a k ++ (if a < k ∧ tch E a k = true then [⟨(a : Int), (k : Int)⟩] else []) := by
  unfold rowW
  rw [List.range_succ, List.filter_append, List.map_append]
  congr 1
  by_cases h : a < k <;> cases ht : tch E a k <;> simp [h, ht]
theorem rowW_start (E : List Edg) (a : Nat) : rowW E a (a + 1) = [] := by
  unfold rowW
  have : (List.range (a + 1)).filter (fun b : Nat => decide (a < b) && tch E a b) = [] := by
    rw [List.filter_eq_nil_iff]
    intro b hb
    have := List.mem_range.1 hb
    have h : ¬ a < b := by omega
    simp [h]
  rw [this]; rfl
theorem wantW_step (E : List Edg) (k : Nat) : wantW E (k + 1) = wantW E k ++ rowW E k E.length := by
  simp [wantW, List.range_succ]
theorem mem_rowW {E : List Edg} {a k : Nat} {e : Edg} : e ∈ rowW E a k ↔ ∃ b : Nat, b < k ∧ a < b ∧ tch E a b = true ∧ e = ⟨(a : Int), (b : Int)⟩ := by
  simp only [rowW, List.mem_map, List.mem_filter, List.mem_range, Bool.and_eq_true, decide_eq_true_eq]
  constructor
  · rintro ⟨b, ⟨h1, h2, h3⟩, rfl⟩; exact ⟨b, h1, h2, h3, rfl⟩
  · rintro ⟨b, h1, h2, h3, rfl⟩; exact ⟨b, ⟨h1, h2, h3⟩, rfl⟩
theorem mem_wantW {E : List Edg} {k : Nat} {e : Edg} : e ∈ wantW E k ↔ ∃ a b : Nat, a < k ∧ b < E.length ∧ a < b ∧ tch E a b = true ∧ e = ⟨(a : Int), (b : Int)⟩ := by
  simp only [wantW, List.mem_flatMap, List.mem_range, mem_rowW]
  constructor
  · rintro ⟨a, ha, b, h1, h2, h3, rfl⟩; exact ⟨a, b, ha, h1, h2, h3, rfl⟩
  · rintro ⟨a, b, ha, h1, h2, h3, rfl⟩; exact ⟨a, ha, b, h1, h2, h3, rfl⟩
theorem rowW_strict (E : List Edg) (a k : Nat) : Strict (rowW E a k) := by
  unfold rowW Strict
  rw [List.pairwise_map]
  refine (List.pairwise_lt_range.filter _).imp fun h => ?_
  rw [cmpE_lt]
  exact .inr ⟨rfl, Int.ofNat_lt.2 h⟩
theorem wantW_strict (E : List Edg) (k : Nat) : Strict (wantW E k) := by
  induction k with
  | zero => exact List.Pairwise.nil
  | succ k ih =>
    rw [wantW_step]
    unfold Strict
    rw [List.pairwise_append]
    refine ⟨ih, rowW_strict _ _ _, fun x hx y hy => ?_⟩
    obtain ⟨a, b, h1, h2, h3, h4, rfl⟩ := mem_wantW.1 hx
    obtain ⟨c, h5, h6, h7, rfl⟩ := mem_rowW.1 hy
    rw [cmpE_lt]; simp only; omega
theorem mem_atD {E : List Edg} {v : Nat} {x : Int} : x ∈ atD E v ↔ ∃ (i : Nat) (e : Edg), x = (i : Int) ∧ E[i]? = some e ∧ (e.a = v ∨ e.b = v) := by
  simp only [atD, List.mem_map, List.mem_filter, decide_eq_true_eq]
  constructor
  · rintro ⟨p, ⟨h1, h2⟩, rfl⟩
    exact ⟨p.2, p.1, rfl, List.mem_zipIdx_iff_getElem?.1 h1, h2⟩
  · rintro ⟨i, e, rfl, h1, h2⟩
    exact ⟨(e, i), ⟨List.mem_zipIdx_iff_getElem?.2 h1, h2⟩, rfl⟩
theorem atD_rise (E : List Edg) (v : Nat) : (atD E v).Pairwise (· < ·) := zipIdx_rise _ _
/-- the pairs as they are found, vertex by vertex -/
def pairsOf (E : List Edg) (n : Nat) : List Edg := (List.range n).flatMap fun v => pairUp (atD E v)
theorem pairsOf_step (E : List Edg) (n : Nat) : pairsOf E (n + 1) = pairsOf E n ++ pairUp (atD E n) := by simp [pairsOf, List.range_succ]
theorem mem_pairUp_at {E : List Edg} {v : Nat} {e : Edg} : e ∈ pairUp (atD E v) ↔ ∃ (i j : Nat) (x y : Edg), e = ⟨(i : Int), (j : Int)⟩ ∧ i < j ∧ E[i]? = some x ∧ E[j]? = some y ∧ (x.a = v ∨ x.b = v) ∧ (y.a = v ∨ y.b = v) := by
  rw [pairUp_mem (atD_rise E v), mem_atD, mem_atD]
  constructor
  · rintro ⟨⟨i, x, h1, h2, h3⟩, ⟨j, y, h4, h5, h6⟩, h7⟩
    exact ⟨i, j, x, y, by cases e; simp_all, by omega, h2, h5, h3, h6⟩
  · rintro ⟨i, j, x, y, rfl, h1, h2, h3, h4, h5⟩
    exact ⟨⟨i, x, rfl, h2, h4⟩, ⟨j, y, rfl, h3, h5⟩, by simp only; omega⟩
/-- two edges share one vertex at most -/
theorem one_share {G : Gr} (h : G.Ok) {i j : Nat} {x y : Edg} (hi : G.edges[i]? = some x) (hj : G.edges[j]? = some y) (hij : i < j) {u v : Nat} (h1 : x.a = u ∨ x.b = u) (h2 : y.a = u ∨ y.b = u) (h3 : x.a = v ∨ x.b = v) (h4 : y.a = v ∨ y.b = v) : u = v := by
  obtain ⟨l1, e1⟩ := List.getElem?_eq_some_iff.1 hi
  obtain ⟨l2, e2⟩ := List.getElem?_eq_some_iff.1 hj
  have hs := List.pairwise_iff_getElem.1 h.sorted i j l1 l2 hij
  rw [e1, e2, cmpE_lt] at hs
  have hx := h.edge x (List.mem_of_getElem? hi)
  have hy := h.edge y (List.mem_of_getElem? hj)
  omega
theorem pairsOf_nodup {G : Gr} (h : G.Ok) (n : Nat) : (pairsOf G.edges n).Nodup := by
  induction n with
  | zero => simp [pairsOf]
  | succ n ih =>
    rw [pairsOf_step, List.nodup_append]
    refine ⟨ih, pairUp_nodup (atD_rise _ _), fun a ha b hb e => ?_⟩
    subst e
    simp only [pairsOf, List.mem_flatMap, List.mem_range] at ha
    obtain ⟨v, hv, ha⟩ := ha
    obtain ⟨i, j, x, y, rfl, h1, h2, h3, h4, h5⟩ := mem_pairUp_at.1 ha
    obtain ⟨i', j', x', y', he, h1', h2', h3', h4', h5'⟩ := mem_pairUp_at.1 hb
    simp only [Edg.mk.injEq, Int.natCast_inj] at he
    obtain ⟨rfl, rfl⟩ := he
    rw [h2] at h2'; rw [h3] at h3'
    cases h2'; cases h3'
    have := one_share h h2 h3 h1 h4 h5 h4' h5'
    omega
theorem mem_pairsOf {G : Gr} (h : G.Ok) {e : Edg} : e ∈ pairsOf G.edges G.labels.length ↔ e ∈ wantW G.edges G.edges.length := by
  simp only [pairsOf, List.mem_flatMap, List.mem_range, mem_pairUp_at, mem_wantW]
  constructor
  · rintro ⟨v, hv, i, j, x, y, rfl, h1, h2, h3, h4, h5⟩
    have l1 := (List.getElem?_eq_some_iff.1 h2).1
    have l2 := (List.getElem?_eq_some_iff.1 h3).1
    refine ⟨i, j, l1, l2, h1, ?_, rfl⟩
    unfold tch
    rw [h2, h3]
    have : i ≠ j := by omega
    simp only [this, ne_eq, not_false_eq_true, decide_true, Bool.true_and, Bool.or_eq_true, decide_eq_true_eq]
    omega
  · rintro ⟨i, j, l1, l2, h1, ht, rfl⟩
    unfold tch at ht
    have hx := List.getElem?_eq_getElem l1
    have hy := List.getElem?_eq_getElem l2
    rw [hx, hy] at ht
    simp only [Bool.and_eq_true, Bool.or_eq_true, decide_eq_true_eq] at ht
    have ex := h.edge _ (List.getElem_mem l1)
    have ey := h.edge _ (List.getElem_mem l2)
    generalize G.edges[i] = x at *
    generalize G.edges[j] = y at *
    have key : ∀ v : Int, 0 ≤ v → v < G.labels.length → (x.a = v ∨ x.b = v) → (y.a = v ∨ y.b = v) → ∃ a : Nat, a < G.labels.length ∧ ∃ (i_1 j_1 : Nat) (x y : Edg), (⟨(i : Int), (j : Int)⟩ : Edg) = ⟨(i_1 : Int), (j_1 : Int)⟩ ∧ i_1 < j_1 ∧ G.edges[i_1]? = some x ∧ G.edges[j_1]? = some y ∧ (x.a = (a : Int) ∨ x.b = (a : Int)) ∧ (y.a = (a : Int) ∨ y.b = (a : Int)) := by
      intro v h0 hn g1 g2
      obtain ⟨m, rfl⟩ := Int.eq_ofNat_of_zero_le h0
      exact ⟨m, by omega, i, j, x, y, rfl, h1, hx, hy, g1, g2⟩
    obtain ⟨_, ((h | h) | h) | h⟩ := ht
    · exact key x.a (by omega) (by omega) (.inl rfl) (.inl h.symm)
    · exact key x.a (by omega) (by omega) (.inl rfl) (.inr h.symm)
    · exact key x.b (by omega) (by omega) (.inr rfl) (.inl h.symm)
    · exact key x.b (by omega) (by omega) (.inr rfl) (.inr h.symm)
theorem pairsOf_le {G : Gr} (h : G.Ok) {e : Edg} (he : e ∈ pairsOf G.edges G.labels.length) : 0 ≤ e.a ∧ e.a < e.b ∧ e.b < G.edges.length := by
  rw [mem_pairsOf h, mem_wantW] at he
  obtain ⟨i, j, h1, h2, h3, _, rfl⟩ := he
  exact ⟨by simp only; omega, by simp only; omega, by simp only; omega⟩
theorem map_turn_le {l : List Edg} (h : ∀ e ∈ l, e.a ≤ e.b) : l.map turn = l := by
  induction l with
  | nil => rfl
  | cons e l ih => rw [List.map_cons, turn_le (h e (by simp)), ih fun x hx => h x (by simp [hx])]
/-- of a line graph's edges: no fault -/
theorem lines_newErr {G : Gr} (h : G.Ok) (hm : G.edges.length ≤ 4096) (hp : (pairsOf G.edges G.labels.length).length ≤ 16384) : newErr (List.replicate G.edges.length 0) (pairsOf G.edges G.labels.length) = none := by
  refine newErr_none (by rw [List.length_replicate]; omega) (fun x hx => by rw [(List.mem_replicate.1 hx).2]; rfl) fun j hj => ?_
  unfold ecodeAt
  rw [List.getElem?_eq_getElem hj]
  simp only [ecode, List.length_replicate]
  have he := pairsOf_le h (List.getElem_mem hj)
  have hnd := pairsOf_nodup h G.labels.length
  have hmt : ((pairsOf G.edges G.labels.length).take j).map turn = (pairsOf G.edges G.labels.length).take j := map_turn_le fun e he => by
    have := pairsOf_le h (List.mem_of_mem_take he); omega
  rw [hmt]
  have hnot : turn (pairsOf G.edges G.labels.length)[j] ∉ (pairsOf G.edges G.labels.length).take j := by
    rw [turn_le (by omega)]
    intro hmem
    obtain ⟨k, hk, e⟩ := List.mem_take_iff_getElem.1 hmem
    have h2 := (List.pairwise_iff_getElem.1 hnd) k j (by omega) hj (by omega)
    exact h2 e
  rw [if_neg (by omega), if_neg (by omega), if_neg hnot]
theorem lines_canon {G : Gr} (h : G.Ok) : canon (pairsOf G.edges G.labels.length) = wantW G.edges G.edges.length := by
  have hmt : (pairsOf G.edges G.labels.length).map turn = pairsOf G.edges G.labels.length := map_turn_le fun e he => by
    have := pairsOf_le h he; omega
  refine strict_mem_eq ?_ (wantW_strict _ _) fun x => ?_
  · refine strict_of ((canon_perm _).nodup_iff.2 ?_) (canon_sorted _)
    rw [hmt]; exact pairsOf_nodup h _
  · rw [(canon_perm _).mem_iff, hmt, mem_pairsOf h]
theorem pairsOf_len (E : List Edg) (n : Nat) : (pairsOf E n).length = ((List.range n).map fun v => pairsN (atD E v).length).sum := by
  induction n with
  | zero => rfl
  | succ n ih => rw [pairsOf_step, List.length_append, ih, pairUp_len, List.range_succ, List.map_append, List.sum_append]; simp
theorem atD_len (E : List Edg) (v : Nat) (h : ∀ e ∈ E, e.a ≠ e.b) : (atD E v).length = deg E v := by
  have key : ∀ (E : List Edg), (∀ e ∈ E, e.a ≠ e.b) → ∀ k, ((E.zipIdx k).filter fun p => decide (p.1.a = (v : Int) ∨ p.1.b = (v : Int))).length = (lessOf E v).length + (moreOf E v).length := by
    intro E
    induction E with
    | nil => intro _ k; rfl
    | cons e E ih =>
      intro h k
      have := ih (fun x hx => h x (by simp [hx])) (k + 1)
      have hne := h e (by simp)
      simp only [List.zipIdx_cons, List.filter_cons, lessOf, moreOf] at this ⊢
      by_cases h1 : e.a = (v : Int) <;> by_cases h2 : e.b = (v : Int)
      · omega
      · have e1 : (decide (e.a = (v : Int) ∨ e.b = (v : Int))) = true := by simp [h1]
        rw [e1]; simp only [h1, h2, decide_true, decide_false, if_true, if_false, List.length_cons, List.map_cons, Bool.false_eq_true]; omega
      · have e1 : (decide (e.a = (v : Int) ∨ e.b = (v : Int))) = true := by simp [h2]
        rw [e1]; simp only [h1, h2, decide_true, decide_false, if_true, if_false, List.length_cons, List.map_cons, Bool.false_eq_true]; omega
      · have e1 : (decide (e.a = (v : Int) ∨ e.b = (v : Int))) = false := by simp [h1, h2]
        rw [e1]; simp only [h1, h2, decide_false, if_false, Bool.false_eq_true]; omega
  unfold atD deg nearOf
  rw [List.length_map, List.length_append]
  exact key E h 0
end Go.Gr
end

section
/- Line graphs: Pairs, Touch, Of; the document's. -/
namespace Go.Gr
theorem pairsN_le (d : Nat) : pairsN d ≤ d * d := by
  unfold pairsN
  have h : d * (d - 1) ≤ d * d := Nat.mul_le_mul_left d (by omega)
  omega
theorem pairs_int (d : Nat) (hd : d ≤ 32768) : 0 ≤ (d : Int) * ((d : Int) - 1) ∧ (d : Int) * ((d : Int) - 1) ≤ 1073741824 ∧ ((d : Int) * ((d : Int) - 1)).tdiv 2 = (pairsN d : Int) := by
  cases d with
  | zero => decide
  | succ d =>
    have e : ((d + 1 : Nat) : Int) * (((d + 1 : Nat) : Int) - 1) = (((d + 1) * d : Nat) : Int) := by push_cast; congr 1; omega
    rw [e]
    have h2 : (d + 1) * d ≤ 32768 * 32768 := Nat.mul_le_mul hd (by omega)
    refine ⟨by omega, by omega, ?_⟩
    rw [Int.tdiv_eq_ediv_of_nonneg (by omega)]
    unfold pairsN
    simp
theorem pairsOf_mono (E : List Edg) {v n : Nat} (h : v ≤ n) : (pairsOf E v).length ≤ (pairsOf E n).length := by
  induction n with
  | zero => have : v = 0 := by omega
            subst this; exact Nat.le_refl _
  | succ n ih =>
    rcases Nat.lt_or_ge v (n + 1) with h1 | h1
    · have := ih (by omega); rw [pairsOf_step, List.length_append]; omega
    · have : v = n + 1 := by omega
      subst this; exact Nat.le_refl _
theorem pairsOf_big (E : List Edg) (v : Nat) (h : ∀ u, (atD E u).length ≤ 32768) : (pairsOf E v).length ≤ v * 1073741824 := by
  induction v with
  | zero => simp [pairsOf]
  | succ v ih =>
    rw [pairsOf_step, List.length_append, pairUp_len]
    have h1 := pairsN_le (atD E v).length
    have h2 : (atD E v).length * (atD E v).length ≤ 32768 * 32768 := Nat.mul_le_mul (h v) (h v)
    omega
def pu (l : List Int) : Nat → List Edg
  | 0 => []
  | i + 1 => pu l i ++ (l.drop (i + 1)).map (fun b => ⟨(l[i]?).getD 0, b⟩)
theorem pu_cons (x : Int) (l : List Int) : ∀ i, pu (x :: l) (i + 1) = l.map (fun b => ⟨x, b⟩) ++ pu l i
  | 0 => by simp [pu]
  | i + 1 => by
    rw [pu, pu_cons x l i, pu]
    simp [List.append_assoc]
theorem pu_all : ∀ l : List Int, pu l l.length = pairUp l
  | [] => rfl
  | x :: l => by rw [List.length_cons, pu_cons, pu_all l]; rfl
theorem pu_mono (l : List Int) {i n : Nat} (h : i ≤ n) : (pu l i).length ≤ (pu l n).length := by
  induction n with
  | zero => have : i = 0 := by omega
            subst this; exact Nat.le_refl _
  | succ n ih =>
    rcases Nat.lt_or_ge i (n + 1) with h1 | h1
    · have := ih (by omega); rw [pu, List.length_append]; omega
    · have : i = n + 1 := by omega
      subst this; exact Nat.le_refl _
end Go.Gr
namespace Go.Proofs.YteigfapjiekdnaaGreatDoor
open Go.Sx Go.RowKit Go.Reg Go.Gr

set_option maxRecDepth 100000
theorem gr_ne {G : Gr} (h : G.Ok) : ∀ e ∈ G.edges, e.a ≠ e.b := fun e he => by have := h.edge e he; omega
theorem at_len {G : Gr} (h : G.Ok) (v : Nat) : (atD G.edges v).length = deg G.edges v := atD_len G.edges v (gr_ne h)
theorem at_le {G : Gr} (h : G.Ok) (v : Nat) : (atD G.edges v).length ≤ 32768 := by
  rw [at_len h]
  have h1 := deg_le G.edges v
  have h2 := h.esize
  omega
/-! ### Of -/
def linesS : ByteArray := ⟨#[108, 105, 110, 101, 115]⟩
def lofY (G : Gr) : Da := if 16384 < (pairsOf G.edges G.labels.length).length then .tuple [.nilp, dS linesS (dF 6 0 graphS)] else .tuple [dG ⟨List.replicate G.edges.length 0, wantW G.edges G.edges.length⟩, .nili]
/-! ### Touch -/
/-- do two edges touch, by any numbers -/
def touchV (E : List Edg) (a b : Int) : Bool := decide (0 ≤ a) && decide (0 ≤ b) && tch E a.toNat b.toNat
theorem touchV_no {E : List Edg} {a b : Int} (h : ¬ (0 ≤ a ∧ a < E.length) ∨ ¬ (0 ≤ b ∧ b < E.length) ∨ a = b) : touchV E a b = false := by
  unfold touchV tch
  by_cases ha : 0 ≤ a
  · by_cases hb : 0 ≤ b
    · obtain ⟨m, rfl⟩ := Int.eq_ofNat_of_zero_le ha
      obtain ⟨n, rfl⟩ := Int.eq_ofNat_of_zero_le hb
      simp only [Int.toNat_natCast]
      by_cases hm : m < E.length
      · by_cases hn : n < E.length
        · have : m = n := by omega
          subst this
          rw [List.getElem?_eq_getElem hm]; simp
        · rw [List.getElem?_eq_none (l := E) (i := n) (by omega), List.getElem?_eq_getElem hm]; simp
      · rw [List.getElem?_eq_none (l := E) (i := m) (by omega)]; simp
    · simp [hb]
  · simp [ha]
theorem touchV_at {E : List Edg} {m n : Nat} {x y : Edg} (hx : E[m]? = some x) (hy : E[n]? = some y) (hne : m ≠ n) : touchV E m n = (decide (x.a = y.a) || decide (x.a = y.b) || decide (x.b = y.a) || decide (x.b = y.b)) := by
  unfold touchV tch
  have h1 : (0 : Int) ≤ m := by omega
  have h2 : (0 : Int) ≤ n := by omega
  simp only [Int.toNat_natCast, hx, hy, h1, h2, decide_true, Bool.true_and, ne_eq, hne, not_false_eq_true]
def pl_ltouch : List (Nat × Plan) := []
def G_ltouch : List FuncId := []
theorem cok_ltouch : codeOk Tryz.prog G_ltouch pl_ltouch (Tryz.f143.body.getD .skip) = true := by kernel_rfl
theorem run_ltouch (vs : Array Value) (w : World) : (callFunc 143 vs).run C1.P w = .ok (.enter 143 vs) w := by kernel_rfl
set_option maxHeartbeats 1000000 in
theorem touch_pure (G : Gr) (a b : Int) : Pure C1 143 [dG G, .int .i64 a, .int .i64 b] (fun y => y = .bool (touchV G.edges a b)) := by
  refine pure_of c1_ok (pl := pl_ltouch) (G := G_ltouch) Tryz.func143 rfl Tryz.ntmps143 run_ltouch cok_ltouch (by simp) ?_
  ((conv => whnf); repeat' ((first | refine odw ?_ | refine ify ?_ | refine ifn ?_ | refine i6 ?_ | refine ati ?_ | refine mst ?_ | refine rmd ?_ | refine ibo (fun _ => ?_) (fun _ => ?_)) <;> conv => whnf))
  refine call_pure rfl (edge_pure G a) ?_; rintro y rfl
  by_cases ha : 0 ≤ a ∧ a < G.edges.length
  · obtain ⟨m, rfl⟩ := Int.eq_ofNat_of_zero_le ha.1
    have hmm : m < G.edges.length := by omega
    have hx := List.getElem?_eq_getElem hmm
    generalize G.edges[m] = x at hx
    have e : edgeY G.edges (m : Int) = .tuple [dE x, .bool true] := by unfold edgeY; rw [if_pos ha, Int.toNat_natCast, hx]; rfl
    obtain ⟨xa, xb⟩ := x
    rw [e, show dE ⟨xa, xb⟩ = .agg [.int .i64 xa, .int .i64 xb] from rfl]
    ((conv => whnf); repeat' ((first | refine odw ?_ | refine ify ?_ | refine ifn ?_ | refine i6 ?_ | refine ati ?_ | refine mst ?_ | refine rmd ?_ | refine ibo (fun _ => ?_) (fun _ => ?_)) <;> conv => whnf))
    refine call_pure rfl (edge_pure G b) ?_; rintro y rfl
    by_cases hb : 0 ≤ b ∧ b < G.edges.length
    · obtain ⟨n, rfl⟩ := Int.eq_ofNat_of_zero_le hb.1
      have hnn : n < G.edges.length := by omega
      have hy := List.getElem?_eq_getElem hnn
      generalize G.edges[n] = y at hy
      have e : edgeY G.edges (n : Int) = .tuple [dE y, .bool true] := by unfold edgeY; rw [if_pos hb, Int.toNat_natCast, hy]; rfl
      obtain ⟨ya, yb⟩ := y
      rw [e, show dE ⟨ya, yb⟩ = .agg [.int .i64 ya, .int .i64 yb] from rfl]
      by_cases hne : m = n
      · rw [touchV_no (.inr (.inr (by rw [hne])))]
        ((conv => whnf); repeat' ((first | refine odw ?_ | refine ify ?_ | refine ifn ?_ | refine i6 ?_ | refine ati ?_ | refine mst ?_ | refine rmd ?_ | refine ibo (fun _ => ?_) (fun _ => ?_)) <;> conv => whnf))
        exact rfl
      · rw [touchV_at hx hy hne]
        by_cases h1 : xa = ya
        · ((conv => whnf); repeat' ((first | refine odw ?_ | refine ify ?_ | refine ifn ?_ | refine i6 ?_ | refine ati ?_ | refine mst ?_ | refine rmd ?_ | refine ibo (fun _ => ?_) (fun _ => ?_)) <;> conv => whnf))
          exact Eq.trans (b := Da.bool true) rfl (by simp [h1])
        by_cases h2 : xa = yb
        · ((conv => whnf); repeat' ((first | refine odw ?_ | refine ify ?_ | refine ifn ?_ | refine i6 ?_ | refine ati ?_ | refine mst ?_ | refine rmd ?_ | refine ibo (fun _ => ?_) (fun _ => ?_)) <;> conv => whnf))
          exact Eq.trans (b := Da.bool true) rfl (by simp [h2])
        by_cases h3 : xb = ya
        · ((conv => whnf); repeat' ((first | refine odw ?_ | refine ify ?_ | refine ifn ?_ | refine i6 ?_ | refine ati ?_ | refine mst ?_ | refine rmd ?_ | refine ibo (fun _ => ?_) (fun _ => ?_)) <;> conv => whnf))
          exact Eq.trans (b := Da.bool true) rfl (by simp [h3])
        · ((conv => whnf); repeat' ((first | refine odw ?_ | refine ify ?_ | refine ifn ?_ | refine i6 ?_ | refine ati ?_ | refine mst ?_ | refine rmd ?_ | refine ibo (fun _ => ?_) (fun _ => ?_)) <;> conv => whnf))
          show Da.plain _ = _
          simp [Da.plain, h1, h2, h3]
    · have e : edgeY G.edges b = .tuple [dE ⟨0, 0⟩, .bool false] := by unfold edgeY; rw [if_neg hb]
      rw [e, touchV_no (.inr (.inl hb))]
      ((conv => whnf); repeat' ((first | refine odw ?_ | refine ify ?_ | refine ifn ?_ | refine i6 ?_ | refine ati ?_ | refine mst ?_ | refine rmd ?_ | refine ibo (fun _ => ?_) (fun _ => ?_)) <;> conv => whnf))
      exact rfl
  · have e : edgeY G.edges a = .tuple [dE ⟨0, 0⟩, .bool false] := by unfold edgeY; rw [if_neg ha]
    rw [e, touchV_no (.inl ha)]
    ((conv => whnf); repeat' ((first | refine odw ?_ | refine ify ?_ | refine ifn ?_ | refine i6 ?_ | refine ati ?_ | refine mst ?_ | refine rmd ?_ | refine ibo (fun _ => ?_) (fun _ => ?_)) <;> conv => whnf))
    refine call_pure rfl (edge_pure G b) ?_; rintro y rfl
    by_cases hb : 0 ≤ b ∧ b < G.edges.length
    · have e : edgeY G.edges b = .tuple [dE ((G.edges[b.toNat]?).getD ⟨0, 0⟩), .bool true] := by unfold edgeY; rw [if_pos hb]
      rw [e]
      ((conv => whnf); repeat' ((first | refine odw ?_ | refine ify ?_ | refine ifn ?_ | refine i6 ?_ | refine ati ?_ | refine mst ?_ | refine rmd ?_ | refine ibo (fun _ => ?_) (fun _ => ?_)) <;> conv => whnf))
      exact rfl
    · have e : edgeY G.edges b = .tuple [dE ⟨0, 0⟩, .bool false] := by unfold edgeY; rw [if_neg hb]
      rw [e]
      ((conv => whnf); repeat' ((first | refine odw ?_ | refine ify ?_ | refine ifn ?_ | refine i6 ?_ | refine ati ?_ | refine mst ?_ | refine rmd ?_ | refine ibo (fun _ => ?_) (fun _ => ?_)) <;> conv => whnf))
      exact rfl
theorem touchV_nat (E : List Edg) (m n : Nat) : touchV E m n = tch E m n := by
  unfold touchV
  have h1 : (0 : Int) ≤ m := by omega
  have h2 : (0 : Int) ≤ n := by omega
  simp [h1, h2]
theorem touch_nil (a b : Int) : Pure C1 143 [.nilp, .int .i64 a, .int .i64 b] (fun y => y = .bool false) := by
  refine pure_of c1_ok (pl := pl_ltouch) (G := G_ltouch) Tryz.func143 rfl Tryz.ntmps143 run_ltouch cok_ltouch (by simp) ?_
  ((conv => whnf); repeat' ((first | refine odw ?_ | refine ify ?_ | refine ifn ?_ | refine i6 ?_ | refine ati ?_ | refine mst ?_ | refine rmd ?_ | refine ibo (fun _ => ?_) (fun _ => ?_)) <;> conv => whnf))
  refine call_pure rfl (edge_nil a) ?_; rintro y rfl
  ((conv => whnf); repeat' ((first | refine odw ?_ | refine ify ?_ | refine ifn ?_ | refine i6 ?_ | refine ati ?_ | refine mst ?_ | refine rmd ?_ | refine ibo (fun _ => ?_) (fun _ => ?_)) <;> conv => whnf))
  refine call_pure rfl (edge_nil b) ?_; rintro y rfl
  ((conv => whnf); repeat' ((first | refine odw ?_ | refine ify ?_ | refine ifn ?_ | refine i6 ?_ | refine ati ?_ | refine mst ?_ | refine rmd ?_ | refine ibo (fun _ => ?_) (fun _ => ?_)) <;> conv => whnf))
  exact rfl
/-! ### the document's -/
theorem rowW_len (E : List Edg) (a k : Nat) : (rowW E a k).length ≤ k := by
  unfold rowW
  rw [List.length_map]
  have := List.length_filter_le (fun b => decide (a < b) && tch E a b) (List.range k)
  rwa [List.length_range] at this
theorem wantW_len (E : List Edg) (k : Nat) : (wantW E k).length ≤ k * E.length := by
  induction k with
  | zero => simp [wantW]
  | succ k ih =>
    rw [wantW_step, List.length_append, Nat.succ_mul]
    have := rowW_len E k E.length
    omega
end Go.Proofs.YteigfapjiekdnaaGreatDoor
end

section
/- LinesOf: the walk. -/
namespace Go.Proofs.YteigfapjiekdnaaGreatDoor
open Go.Sx Go.RowKit Go.Reg Go.Gr

set_option maxRecDepth 100000
/-! ### the chapter's example -/
def exE : List Edg := [⟨0, 2⟩, ⟨1, 2⟩, ⟨0, 1⟩]
def exS : List Edg := [⟨0, 1⟩, ⟨0, 2⟩, ⟨1, 2⟩]
theorem ex_canon : canon exE = exS := (canon_eq (by decide) (by decide) (by decide)).symm
def exG : Gr := ⟨[0, 0, 0], exS⟩
theorem ex_err : newErr [0, 0, 0] exE = none := by decide
theorem ex_made : madeY [0, 0, 0] exE = .tuple [dG exG, dM [0, 0, 0] exS, .bool true] := by
  unfold madeY madeG
  rw [if_pos (by decide), ex_err, ex_canon]
  rfl
theorem ex_ok : exG.Ok := by
  have := canon_ok ex_err
  rwa [ex_canon] at this
def exL : Gr := ⟨List.replicate 3 0, wantW exS 3⟩
theorem ex_lof : lofY exG = .tuple [dG exL, .nili] := by
  unfold lofY
  rw [if_neg (by decide)]
  rfl
/-! ### the statement -/
theorem pairs_small {G : Gr} (_hG : G.Ok) (hn : G.labels.length ≤ 10) (hm : G.edges.length ≤ 30) : (pairsOf G.edges G.labels.length).length ≤ 16384 := by
  have key : ∀ v, (pairsOf G.edges v).length ≤ v * 900 := by
    intro v
    induction v with
    | zero => simp [pairsOf]
    | succ v ih =>
      rw [pairsOf_step, List.length_append, pairUp_len]
      have h0 : (atD G.edges v).length ≤ 30 := by
        unfold atD
        rw [List.length_map]
        have := List.length_filter_le (fun p : Edg × Nat => decide (p.1.a = (v : Int) ∨ p.1.b = (v : Int))) G.edges.zipIdx
        rw [List.length_zipIdx] at this
        omega
      have h1 := pairsN_le (atD G.edges v).length
      have h2 : (atD G.edges v).length * (atD G.edges v).length ≤ 30 * 30 := Nat.mul_le_mul h0 h0
      omega
  have := key G.labels.length
  omega
def lnG (G : Gr) : Gr := ⟨List.replicate G.edges.length 0, wantW G.edges G.edges.length⟩
theorem lofY_small {G : Gr} (hG : G.Ok) (hn : G.labels.length ≤ 10) (hm : G.edges.length ≤ 30) : lofY G = .tuple [dG (lnG G), .nili] := by
  unfold lofY
  have := pairs_small hG hn hm
  rw [if_neg (by omega)]
  rfl
theorem pairs_want {G : Gr} (hG : G.Ok) : (pairsOf G.edges G.labels.length).length = (wantW G.edges G.edges.length).length := by
  rw [← lines_canon hG, canon_len]
end Go.Proofs.YteigfapjiekdnaaGreatDoor
end

section
/- Lists: Has, Index, Contains, SameInts; lines: Ends, Verts, Span. -/
namespace Go.Gr
def endsOf (E : List Edg) (l : List Int) : List Edg := l.filterMap fun id : Int => if 0 ≤ id ∧ id < E.length then E[id.toNat]? else none
def addN (out : List Int) (x : Int) : List Int := if x ∈ out then out else out ++ [x]
def vertsOf (l : List Edg) : List Int := l.foldl (fun out e => addN (addN out e.a) e.b) []
theorem vertsOf_snoc (l : List Edg) (e : Edg) : vertsOf (l ++ [e]) = addN (addN (vertsOf l) e.a) e.b := by simp [vertsOf, List.foldl_append]
theorem addN_len (out : List Int) (x : Int) : (addN out x).length ≤ out.length + 1 := by unfold addN; split <;> simp
theorem vertsOf_len (l : List Edg) : (vertsOf l).length ≤ 2 * l.length := by
  suffices h : ∀ l : List Edg, (vertsOf l.reverse).length ≤ 2 * l.length by have := h l.reverse; rwa [List.reverse_reverse, List.length_reverse] at this
  intro l
  induction l with
  | nil => simp [vertsOf]
  | cons e l ih =>
    rw [List.reverse_cons, vertsOf_snoc]
    have h1 := addN_len (addN (vertsOf l.reverse) e.a) e.b
    have h2 := addN_len (vertsOf l.reverse) e.a
    simp only [List.length_cons]; omega
theorem endsOf_snoc (E : List Edg) (l : List Int) (x : Int) : endsOf E (l ++ [x]) = endsOf E l ++ (if 0 ≤ x ∧ x < E.length then E[x.toNat]? else none).toList := by
  simp only [endsOf, List.filterMap_append, List.filterMap_cons, List.filterMap_nil]
  congr 1
theorem endsOf_in {E : List Edg} {l : List Int} {m : Nat} {e : Edg} (h : E[m]? = some e) : endsOf E (l ++ [(m : Int)]) = endsOf E l ++ [e] := by
  have := (List.getElem?_eq_some_iff.1 h).1
  rw [endsOf_snoc, if_pos ⟨by omega, by omega⟩, Int.toNat_natCast, h]; rfl
theorem endsOf_out {E : List Edg} {l : List Int} {x : Int} (h : ¬ (0 ≤ x ∧ x < E.length)) : endsOf E (l ++ [x]) = endsOf E l := by
  rw [endsOf_snoc, if_neg h]; simp
theorem endsOf_len (E : List Edg) (l : List Int) : (endsOf E l).length ≤ l.length := List.length_filterMap_le _ _
def inB (l : List Int) (e : Edg) : Bool := decide (e.a ∈ l) && decide (e.b ∈ l)
def spanOf (E : List Edg) (l : List Int) (k : Nat) : List Int := ((List.range k).filter fun i => match E[i]? with | some e => inB l e | none => false).map fun i : Nat => (i : Int)
theorem spanOf_step {E : List Edg} {l : List Int} {k : Nat} {e : Edg} (h : E[k]? = some e) : spanOf E l (k + 1) = spanOf E l k ++ (if inB l e = true then [(k : Int)] else []) := by
  unfold spanOf
  rw [List.range_succ, List.filter_append, List.map_append]
  congr 1
  cases hb : inB l e <;> simp [h, hb]
theorem spanOf_len (E : List Edg) (l : List Int) (k : Nat) : (spanOf E l k).length ≤ k := by
  unfold spanOf
  rw [List.length_map]
  have := List.length_filter_le (fun i => match E[i]? with | some e => inB l e | none => false) (List.range k)
  rwa [List.length_range] at this
def idxI (l : List Int) (x : Int) : Int := match l.findIdx? (fun y => decide (x = y)) with | some i => (i : Int) | none => -1
theorem idxI_at {l : List Int} {x : Int} {i : Nat} (h : l[i]? = some x) (hn : ∀ y ∈ l.take i, ¬ x = y) : idxI l x = i := by
  unfold idxI
  have : l.findIdx? (fun y => decide (x = y)) = some i := by
    rw [List.findIdx?_eq_some_iff_getElem]
    obtain ⟨h1, h2⟩ := List.getElem?_eq_some_iff.1 h
    refine ⟨h1, by simp [h2], fun j hj => ?_⟩
    have := hn l[j] (List.mem_take_iff_getElem.2 ⟨j, by omega, rfl⟩)
    simp [this]
  rw [this]
theorem idxI_none {l : List Int} {x : Int} (h : ¬ x ∈ l) : idxI l x = -1 := by
  unfold idxI
  have : l.findIdx? (fun y => decide (x = y)) = none := by
    rw [List.findIdx?_eq_none_iff]
    intro y hy
    have : ¬ x = y := fun e => h (e ▸ hy)
    simp [this]
  rw [this]
theorem idxI_nonneg {l : List Int} {x : Int} (h : x ∈ l) : 0 ≤ idxI l x := by
  unfold idxI
  split
  · omega
  · rename_i hn
    rw [List.findIdx?_eq_none_iff] at hn
    have := hn x h
    simp at this
end Go.Gr
namespace Go.Proofs.YteigfapjiekdnaaGreatDoor
open Go.Sx Go.RowKit Go.Reg Go.Gr

set_option maxRecDepth 100000
theorem ints_len {O : List Nat} {w : World} {l : List Int} {v : Value} (h : Rep O w (dIs l) v) : l.length ≤ 9223372036854775807 := by
  have := rep_len h
  rw [List.length_map] at this
  unfold maxLen at this
  omega
theorem Pure.len1 {f : FuncId} {l : List Int} {xs : List Da} {Q : Da → Prop} (h : l.length ≤ 9223372036854775807 → Sx.Pure C1 f (dIs l :: xs) Q) : Sx.Pure C1 f (dIs l :: xs) Q :=
  Sx.Pure.assume (fun O w us hr => by obtain ⟨v, vs, rfl, h1, _⟩ := reps_inv hr; exact ints_len h1) h
def pl_h06 : List (Nat × Plan) := []
def G_h06 : List FuncId := []
theorem cok_h06 : codeOk Tryz.prog G_h06 pl_h06 (Tryz.f17.body.getD .skip) = true := by kernel_rfl
theorem run_h06 (vs : Array Value) (w : World) : (callFunc 17 vs).run C1.P w = .ok (.enter 17 vs) w := by kernel_rfl
theorem has06_pure (l : List Int) (x : Int) : Pure C1 17 [dIs l, .int .i64 x] (fun y => y = .bool (decide (x ∈ l))) := by
  refine Pure.len1 fun hm => ?_
  have hl : (l.map dI).length = l.length := List.length_map _
  refine pure_of c1_ok (pl := pl_h06) (G := G_h06) Tryz.func17 rfl Tryz.ntmps17 run_h06 cok_h06 (by simp) ?_
  ((conv => whnf); repeat' ((first | refine odw ?_ | refine ify ?_ | refine ifn ?_ | refine i6 ?_ | refine ati ?_ | refine mst ?_ | refine rmd ?_ | refine ibo (fun _ => ?_) (fun _ => ?_)) <;> conv => whnf))
  refine loop_lo (ι := Nat) (fun i => i ≤ l.length ∧ ∀ y ∈ l.take i, ¬ x = y) (fun i => [(5, .d (.int .i64 i)), (1, .d (.int .i64 x)), (0, .d (dIs l))]) (fun _ => []) (fun i => l.length - i) 0 (fun _ => rfl) ⟨Nat.zero_le _, by simp⟩ (.refl _ _) ⟨rfl, rfl, rfl, trivial⟩ trivial ?_
  rintro i ⟨hi, hne⟩
  refine sxCode_sound c1_ok (G := G_h06) (pl := pl_h06) _ _ _ _ (by kernel_rfl) ?_
  by_cases hlt : i < l.length
  · have hx := List.getElem?_eq_getElem hlt
    generalize l[i] = y at hx
    have hxd : (l.map dI)[i]? = some (.int .i64 y) := by rw [List.getElem?_map, hx]; rfl
    by_cases he : y = x
    · subst he
      rw [decide_eq_true (List.mem_of_getElem? hx)]
      (conv => whnf)
      (repeat' ((first | refine ord_ok (by (conv => whnf); (repeat' ((first | refine at_da hxd rfl ?_ | refine ify ?_ | refine ifn ?_ | refine i6 ?_ | refine ati ?_ | refine mst ?_ | refine rmd ?_ | refine ibo (fun _ => ?_) (fun _ => ?_)) <;> conv => whnf)); (all_goals (repeat' (first | exact trivial | exact rfl | refine And.intro ?_ ?_)))) ?_ | refine at_da hxd rfl ?_ | refine ify ?_ | refine ifn ?_ | refine i6 ?_ | refine ati ?_ | refine mst ?_ | refine rmd ?_ | refine ibo (fun _ => ?_) (fun _ => ?_)) <;> conv => whnf))
      exact rfl
    · (conv => whnf)
      (repeat' ((first | refine ord_ok (by (conv => whnf); (repeat' ((first | refine at_da hxd rfl ?_ | refine ify ?_ | refine ifn ?_ | refine i6 ?_ | refine ati ?_ | refine mst ?_ | refine rmd ?_ | refine ibo (fun _ => ?_) (fun _ => ?_)) <;> conv => whnf)); (all_goals (repeat' (first | exact trivial | exact rfl | refine And.intro ?_ ?_)))) ?_ | refine at_da hxd rfl ?_ | refine ify ?_ | refine ifn ?_ | refine i6 ?_ | refine ati ?_ | refine mst ?_ | refine rmd ?_ | refine ibo (fun _ => ?_) (fun _ => ?_)) <;> conv => whnf))
      refine ⟨i + 1, _, _, ⟨hlt, ?_⟩, .refl _ _, ⟨rfl, rfl, rfl, trivial⟩, trivial, by omega⟩
      intro z hz
      rw [List.take_add_one, hx] at hz
      rcases List.mem_append.1 hz with hz | hz
      · exact hne z hz
      · simp at hz; subst hz; exact fun e => he e.symm
  · have hii : l.take i = l := List.take_of_length_le (by omega)
    rw [hii] at hne
    rw [decide_eq_false (fun h => hne x h rfl)]
    ((conv => whnf); repeat' ((first | refine odw ?_ | refine ify ?_ | refine ifn ?_ | refine i6 ?_ | refine ati ?_ | refine mst ?_ | refine rmd ?_ | refine ibo (fun _ => ?_) (fun _ => ?_)) <;> conv => whnf))
    exact rfl
def pl_sidx : List (Nat × Plan) := []
def G_sidx : List FuncId := []
theorem cok_sidx : codeOk Tryz.prog G_sidx pl_sidx (Tryz.f103.body.getD .skip) = true := by kernel_rfl
theorem run_sidx (vs : Array Value) (w : World) : (callFunc 103 vs).run C1.P w = .ok (.enter 103 vs) w := by kernel_rfl
theorem index_pure (l : List Int) (x : Int) : Pure C1 103 [dIs l, .int .i64 x] (fun y => y = .int .i64 (idxI l x)) := by
  refine Pure.len1 fun hm => ?_
  have hl : (l.map dI).length = l.length := List.length_map _
  refine pure_of c1_ok (pl := pl_sidx) (G := G_sidx) Tryz.func103 rfl Tryz.ntmps103 run_sidx cok_sidx (by simp) ?_
  ((conv => whnf); repeat' ((first | refine odw ?_ | refine ify ?_ | refine ifn ?_ | refine i6 ?_ | refine ati ?_ | refine mst ?_ | refine rmd ?_ | refine ibo (fun _ => ?_) (fun _ => ?_)) <;> conv => whnf))
  refine loop_lo (ι := Nat) (fun i => i ≤ l.length ∧ ∀ y ∈ l.take i, ¬ x = y) (fun i => [(8, .d (.int .i64 i)), (7, .d (.int .i64 (l.map dI).length)), (1, .d (.int .i64 x)), (0, .d (dIs l))]) (fun _ => []) (fun i => l.length - i) 0 (fun _ => rfl) ⟨Nat.zero_le _, by simp⟩ (.refl _ _) ⟨rfl, rfl, rfl, rfl, trivial⟩ trivial ?_
  rintro i ⟨hi, hne⟩
  refine sxCode_sound c1_ok (G := G_sidx) (pl := pl_sidx) _ _ _ _ (by kernel_rfl) ?_
  by_cases hlt : i < l.length
  · have hx := List.getElem?_eq_getElem hlt
    generalize l[i] = y at hx
    have hxd : (l.map dI)[i]? = some (.int .i64 y) := by rw [List.getElem?_map, hx]; rfl
    by_cases he : x = y
    · subst he
      rw [idxI_at hx hne]
      (conv => whnf)
      (repeat' ((first | refine ord_ok (by (conv => whnf); (repeat' ((first | refine at_da hxd rfl ?_ | refine ify ?_ | refine ifn ?_ | refine i6 ?_ | refine ati ?_ | refine mst ?_ | refine rmd ?_ | refine ibo (fun _ => ?_) (fun _ => ?_)) <;> conv => whnf)); (all_goals (repeat' (first | exact trivial | exact rfl | refine And.intro ?_ ?_)))) ?_ | refine at_da hxd rfl ?_ | refine ify ?_ | refine ifn ?_ | refine i6 ?_ | refine ati ?_ | refine mst ?_ | refine rmd ?_ | refine ibo (fun _ => ?_) (fun _ => ?_)) <;> conv => whnf))
      exact rfl
    · (conv => whnf)
      (repeat' ((first | refine ord_ok (by (conv => whnf); (repeat' ((first | refine at_da hxd rfl ?_ | refine ify ?_ | refine ifn ?_ | refine i6 ?_ | refine ati ?_ | refine mst ?_ | refine rmd ?_ | refine ibo (fun _ => ?_) (fun _ => ?_)) <;> conv => whnf)); (all_goals (repeat' (first | exact trivial | exact rfl | refine And.intro ?_ ?_)))) ?_ | refine at_da hxd rfl ?_ | refine ify ?_ | refine ifn ?_ | refine i6 ?_ | refine ati ?_ | refine mst ?_ | refine rmd ?_ | refine ibo (fun _ => ?_) (fun _ => ?_)) <;> conv => whnf))
      refine ⟨i + 1, _, _, ⟨hlt, ?_⟩, .refl _ _, ⟨rfl, rfl, rfl, rfl, trivial⟩, trivial, by omega⟩
      intro z hz
      rw [List.take_add_one, hx] at hz
      rcases List.mem_append.1 hz with hz | hz
      · exact hne z hz
      · simp at hz; subst hz; exact he
  · have hii : l.take i = l := List.take_of_length_le (by omega)
    rw [hii] at hne
    rw [idxI_none (fun h => hne x h rfl)]
    ((conv => whnf); repeat' ((first | refine odw ?_ | refine ify ?_ | refine ifn ?_ | refine i6 ?_ | refine ati ?_ | refine mst ?_ | refine rmd ?_ | refine ibo (fun _ => ?_) (fun _ => ?_)) <;> conv => whnf))
    exact rfl
theorem contains_pure (l : List Int) (x : Int) : Pure C1 136 [dIs l, .int .i64 x] (fun y => y = .bool (decide (x ∈ l))) := by
  refine pure_of c1_ok (pl := []) (G := []) Tryz.func136 rfl Tryz.ntmps136 (by intro vs w; kernel_rfl) (by kernel_rfl) (by simp) ?_
  ((conv => whnf); repeat' ((first | refine odw ?_ | refine ify ?_ | refine ifn ?_ | refine i6 ?_ | refine ati ?_ | refine mst ?_ | refine rmd ?_ | refine ibo (fun _ => ?_) (fun _ => ?_)) <;> conv => whnf))
  refine call_eq rfl (index_pure l x) ?_
  by_cases h : x ∈ l
  · have := idxI_nonneg h
    ((conv => whnf); repeat' ((first | refine odw ?_ | refine ify ?_ | refine ifn ?_ | refine i6 ?_ | refine ati ?_ | refine mst ?_ | refine rmd ?_ | refine ibo (fun _ => ?_) (fun _ => ?_)) <;> conv => whnf))
    show Da.plain _ = _
    simp [Da.plain, h, this]
  · rw [idxI_none h]
    ((conv => whnf); repeat' ((first | refine odw ?_ | refine ify ?_ | refine ifn ?_ | refine i6 ?_ | refine ati ?_ | refine mst ?_ | refine rmd ?_ | refine ibo (fun _ => ?_) (fun _ => ?_)) <;> conv => whnf))
    show Da.plain _ = _
    simp [Da.plain, h]
theorem index_nils (x : Int) : Pure C1 103 [.nils, .int .i64 x] (fun y => y = .int .i64 (-1)) := by
  refine pure_of c1_ok (pl := pl_sidx) (G := G_sidx) Tryz.func103 rfl Tryz.ntmps103 run_sidx cok_sidx (by simp) ?_
  ((conv => whnf); repeat' ((first | refine odw ?_ | refine ify ?_ | refine ifn ?_ | refine i6 ?_ | refine ati ?_ | refine mst ?_ | refine rmd ?_ | refine ibo (fun _ => ?_) (fun _ => ?_)) <;> conv => whnf))
  refine loop_lo (ι := Unit) (fun _ => True) (fun _ => [(8, .d (.int .i64 0)), (7, .d (.int .i64 0)), (1, .d (.int .i64 x)), (0, .d .nils)]) (fun _ => []) (fun _ => 0) () (fun _ => rfl) trivial (.refl _ _) ⟨rfl, rfl, rfl, rfl, trivial⟩ trivial ?_
  intro _ _
  refine sxCode_sound c1_ok (G := G_sidx) (pl := pl_sidx) _ _ _ _ (by kernel_rfl) ?_
  ((conv => whnf); repeat' ((first | refine odw ?_ | refine ify ?_ | refine ifn ?_ | refine i6 ?_ | refine ati ?_ | refine mst ?_ | refine rmd ?_ | refine ibo (fun _ => ?_) (fun _ => ?_)) <;> conv => whnf))
  exact rfl
theorem contains_nils (x : Int) : Pure C1 136 [.nils, .int .i64 x] (fun y => y = .bool false) := by
  refine pure_of c1_ok (pl := []) (G := []) Tryz.func136 rfl Tryz.ntmps136 (by intro vs w; kernel_rfl) (by kernel_rfl) (by simp) ?_
  ((conv => whnf); repeat' ((first | refine odw ?_ | refine ify ?_ | refine ifn ?_ | refine i6 ?_ | refine ati ?_ | refine mst ?_ | refine rmd ?_ | refine ibo (fun _ => ?_) (fun _ => ?_)) <;> conv => whnf))
  refine call_eq rfl (index_nils x) ?_
  ((conv => whnf); repeat' ((first | refine odw ?_ | refine ify ?_ | refine ifn ?_ | refine i6 ?_ | refine ati ?_ | refine mst ?_ | refine rmd ?_ | refine ibo (fun _ => ?_) (fun _ => ?_)) <;> conv => whnf))
  exact rfl
def pl_s03 : List (Nat × Plan) := [(6, .leaf [0, 0, 0, 1, 0, 0, 0, 1, 0] [0, 1, 2, 4, 5, 6, 3, 7, 8] [0, 0, 3, 7, 0, 0, 48, 112, 255])]
def G_s03 : List FuncId := []
theorem cok_s03 : codeOk Tryz.prog G_s03 pl_s03 (Tryz.f36.body.getD .skip) = true := by kernel_rfl
theorem run_s03 (vs : Array Value) (w : World) : (callFunc 36 vs).run C1.P w = .ok (.enter 36 vs) w := by kernel_rfl
theorem same_pure (l r : List Int) : Pure C1 36 [dIs l, dIs r] (fun y => y = .bool (decide (l = r))) := by
  refine Pure.len1 fun hm => ?_
  have hl : (l.map dI).length = l.length := List.length_map _
  have hr : (r.map dI).length = r.length := List.length_map _
  refine pure_of c1_ok (pl := pl_s03) (G := G_s03) Tryz.func36 rfl Tryz.ntmps36 run_s03 cok_s03 (by simp) ?_
  by_cases hlen : l.length = r.length
  · ((conv => whnf); repeat' ((first | refine odw ?_ | refine ify ?_ | refine ifn ?_ | refine i6 ?_ | refine ati ?_ | refine mst ?_ | refine rmd ?_ | refine ibo (fun _ => ?_) (fun _ => ?_)) <;> conv => whnf))
    refine loop_lo (ι := Nat) (fun i => i ≤ l.length ∧ l.take i = r.take i) (fun i => [(5, .d (.int .i64 i)), (1, .d (dIs r)), (0, .d (dIs l))]) (fun _ => []) (fun i => l.length - i) 0 (fun _ => rfl) ⟨Nat.zero_le _, by simp⟩ (.refl _ _) ⟨rfl, rfl, rfl, trivial⟩ trivial ?_
    rintro i ⟨hi, he⟩
    refine sxCode_sound c1_ok (G := G_s03) (pl := pl_s03) _ _ _ _ (by kernel_rfl) ?_
    by_cases hlt : i < l.length
    · have hx := List.getElem?_eq_getElem hlt
      have hy := List.getElem?_eq_getElem (l := r) (i := i) (by omega)
      generalize l[i] = x at hx
      generalize r[i] = y at hy
      have hxd : (l.map dI)[i]? = some (.int .i64 x) := by rw [List.getElem?_map, hx]; rfl
      have hyd : (r.map dI)[i]? = some (.int .i64 y) := by rw [List.getElem?_map, hy]; rfl
      by_cases hxy : x = y
      · subst hxy
        (conv => whnf)
        (repeat' ((first | refine ord_ok (by (conv => whnf); (repeat' ((first | refine at_da hxd rfl ?_ | refine at_da hyd rfl ?_ | refine ify ?_ | refine ifn ?_ | refine i6 ?_ | refine ati ?_ | refine mst ?_ | refine rmd ?_ | refine ibo (fun _ => ?_) (fun _ => ?_)) <;> conv => whnf)); (all_goals (repeat' (first | exact trivial | exact rfl | refine And.intro ?_ ?_)))) ?_ | refine at_da hxd rfl ?_ | refine at_da hyd rfl ?_ | refine ify ?_ | refine ifn ?_ | refine i6 ?_ | refine ati ?_ | refine mst ?_ | refine rmd ?_ | refine ibo (fun _ => ?_) (fun _ => ?_)) <;> conv => whnf))
        refine ⟨i + 1, _, _, ⟨hlt, ?_⟩, .refl _ _, ⟨rfl, rfl, rfl, trivial⟩, trivial, by omega⟩
        rw [List.take_add_one, List.take_add_one, hx, hy, he]
      · rw [decide_eq_false (fun h => by subst h; rw [hx] at hy; cases hy; exact hxy rfl)]
        (conv => whnf)
        (repeat' ((first | refine ord_ok (by (conv => whnf); (repeat' ((first | refine at_da hxd rfl ?_ | refine at_da hyd rfl ?_ | refine ify ?_ | refine ifn ?_ | refine i6 ?_ | refine ati ?_ | refine mst ?_ | refine rmd ?_ | refine ibo (fun _ => ?_) (fun _ => ?_)) <;> conv => whnf)); (all_goals (repeat' (first | exact trivial | exact rfl | refine And.intro ?_ ?_)))) ?_ | refine at_da hxd rfl ?_ | refine at_da hyd rfl ?_ | refine ify ?_ | refine ifn ?_ | refine i6 ?_ | refine ati ?_ | refine mst ?_ | refine rmd ?_ | refine ibo (fun _ => ?_) (fun _ => ?_)) <;> conv => whnf))
        exact rfl
    · rw [List.take_of_length_le (by omega), List.take_of_length_le (by omega)] at he
      rw [decide_eq_true he]
      ((conv => whnf); repeat' ((first | refine odw ?_ | refine ify ?_ | refine ifn ?_ | refine i6 ?_ | refine ati ?_ | refine mst ?_ | refine rmd ?_ | refine ibo (fun _ => ?_) (fun _ => ?_)) <;> conv => whnf))
      exact rfl
  · rw [decide_eq_false (fun h => hlen (by rw [h]))]
    ((conv => whnf); repeat' ((first | refine odw ?_ | refine ify ?_ | refine ifn ?_ | refine i6 ?_ | refine ati ?_ | refine mst ?_ | refine rmd ?_ | refine ibo (fun _ => ?_) (fun _ => ?_)) <;> conv => whnf))
    exact rfl
/-! ### Ends, Verts, Span -/
def pl_lends : List (Nat × Plan) := []
def G_lends : List FuncId := []
theorem cok_lends : codeOk Tryz.prog G_lends pl_lends (Tryz.f102.body.getD .skip) = true := by kernel_rfl
theorem run_lends (vs : Array Value) (w : World) : (callFunc 102 vs).run C1.P w = .ok (.enter 102 vs) w := by kernel_rfl
theorem ends_pure (G : Gr) (l : List Int) (hb : l.length ≤ 4294967296) : Pure C1 102 [dG G, dIs l] (fun y => y = dEs (endsOf G.edges l)) := by
  have hl : (l.map dI).length = l.length := List.length_map _
  refine pure_of c1_ok (pl := pl_lends) (G := G_lends) Tryz.func102 rfl Tryz.ntmps102 run_lends cok_lends (by simp) ?_
  ((conv => whnf); repeat' ((first | refine odw ?_ | refine ify ?_ | refine ifn ?_ | refine i6 ?_ | refine ati ?_ | refine mst ?_ | refine rmd ?_ | refine ibo (fun _ => ?_) (fun _ => ?_)) <;> conv => whnf))
  refine loop_lo (ι := Nat) (fun i => i ≤ l.length) (fun i => [(12, .d (.int .i64 i)), (11, .d (.int .i64 (l.map dI).length)), (10, .d (dIs l)), (5, .own 300), (0, .d (dG G))]) (fun i => [(300, .slice 40 2 ((endsOf G.edges (l.take i)).map dE))]) (fun i => l.length - i) 0 (fun _ => rfl) (Nat.zero_le _)
    (.own 5 300 40 2 rfl rfl (.refl _ _)) ⟨rfl, rfl, rfl, rfl, rfl, trivial⟩ ⟨rfl, trivial⟩ ?_
  intro i hi
  refine sxCode_sound c1_ok (G := G_lends) (pl := pl_lends) _ _ _ _ (by kernel_rfl) ?_
  by_cases hlt : i < l.length
  · have hx := List.getElem?_eq_getElem hlt
    generalize l[i] = x at hx
    have hxd : (l.map dI)[i]? = some (.int .i64 x) := by rw [List.getElem?_map, hx]; rfl
    have htk : l.take (i + 1) = l.take i ++ [x] := by rw [List.take_add_one, hx]; rfl
    have hel := endsOf_len G.edges (l.take i)
    rw [List.length_take] at hel
    (conv => whnf)
    (repeat' ((first | refine ord_ok (by (conv => whnf); (repeat' ((first | refine at_da hxd rfl ?_ | refine ify ?_ | refine ifn ?_ | refine i6 ?_ | refine ati ?_ | refine mst ?_ | refine rmd ?_ | refine ibo (fun _ => ?_) (fun _ => ?_)) <;> conv => whnf)); (all_goals (repeat' (first | exact trivial | exact rfl | refine And.intro ?_ ?_)))) ?_ | refine at_da hxd rfl ?_ | refine ify ?_ | refine ifn ?_ | refine i6 ?_ | refine ati ?_ | refine mst ?_ | refine rmd ?_ | refine ibo (fun _ => ?_) (fun _ => ?_)) <;> conv => whnf))
    refine call_eq rfl (edge_pure G x) ?_
    by_cases h : 0 ≤ x ∧ x < G.edges.length
    · obtain ⟨m, rfl⟩ := Int.eq_ofNat_of_zero_le h.1
      have hy := List.getElem?_eq_getElem (show m < G.edges.length by omega)
      have e : edgeY G.edges (m : Int) = .tuple [dE G.edges[m], .bool true] := by unfold edgeY; rw [if_pos h, Int.toNat_natCast, hy]; rfl
      rw [e]
      have hen := endsOf_in (l := l.take i) hy
      generalize G.edges[m] = z at hy hen
      have hfin : (endsOf G.edges (l.take i)).map dE ++ [dE z] = (endsOf G.edges (l.take (i + 1))).map dE := by rw [htk, hen, List.map_append]; rfl
      ((conv => whnf); repeat' ((first | refine odw ?_ | refine ify ?_ | refine ifn ?_ | refine i6 ?_ | refine ati ?_ | refine mst ?_ | refine rmd ?_ | refine ibo (fun _ => ?_) (fun _ => ?_)) <;> conv => whnf))
      exact ⟨i + 1, _, _, hlt, .refl _ _, ⟨rfl, rfl, rfl, rfl, rfl, trivial⟩, ⟨slice_is hfin, trivial⟩, by omega⟩
    · have e : edgeY G.edges x = .tuple [dE ⟨0, 0⟩, .bool false] := by unfold edgeY; rw [if_neg h]
      rw [e]
      have hfin : (endsOf G.edges (l.take i)).map dE = (endsOf G.edges (l.take (i + 1))).map dE := by rw [htk, endsOf_out h]
      ((conv => whnf); repeat' ((first | refine odw ?_ | refine ify ?_ | refine ifn ?_ | refine i6 ?_ | refine ati ?_ | refine mst ?_ | refine rmd ?_ | refine ibo (fun _ => ?_) (fun _ => ?_)) <;> conv => whnf))
      exact ⟨i + 1, _, _, hlt, .refl _ _, ⟨rfl, rfl, rfl, rfl, rfl, trivial⟩, ⟨slice_is hfin, trivial⟩, by omega⟩
  · have hii : l.take i = l := List.take_of_length_le (by omega)
    rw [hii]
    ((conv => whnf); repeat' ((first | refine odw ?_ | refine ify ?_ | refine ifn ?_ | refine i6 ?_ | refine ati ?_ | refine mst ?_ | refine rmd ?_ | refine ibo (fun _ => ?_) (fun _ => ?_)) <;> conv => whnf))
    exact rfl
theorem ends_nil (l : List Int) : Pure C1 102 [.nilp, dIs l] (fun y => y = .nils) := by
  refine Pure.assume (P := l.length ≤ 9223372036854775807) (fun O w us hr => by obtain ⟨v, vs, rfl, _, h2⟩ := reps_inv hr; obtain ⟨v2, vs2, rfl, h3, _⟩ := reps_inv h2; exact ints_len h3) fun hm => ?_
  have hl : (l.map dI).length = l.length := List.length_map _
  refine pure_of c1_ok (pl := pl_lends) (G := G_lends) Tryz.func102 rfl Tryz.ntmps102 run_lends cok_lends (by simp) ?_
  ((conv => whnf); repeat' ((first | refine odw ?_ | refine ify ?_ | refine ifn ?_ | refine i6 ?_ | refine ati ?_ | refine mst ?_ | refine rmd ?_ | refine ibo (fun _ => ?_) (fun _ => ?_)) <;> conv => whnf))
  refine loop_lo (ι := Nat) (fun i => i ≤ l.length) (fun i => [(12, .d (.int .i64 i)), (11, .d (.int .i64 (l.map dI).length)), (10, .d (dIs l)), (5, .d .nils), (0, .d .nilp)]) (fun i => []) (fun i => l.length - i) 0 (fun _ => rfl) (Nat.zero_le _) (.refl _ _) ⟨rfl, rfl, rfl, rfl, rfl, trivial⟩ trivial ?_
  intro i hi
  refine sxCode_sound c1_ok (G := G_lends) (pl := pl_lends) _ _ _ _ (by kernel_rfl) ?_
  by_cases hlt : i < l.length
  · have hx := List.getElem?_eq_getElem hlt
    generalize l[i] = x at hx
    have hxd : (l.map dI)[i]? = some (.int .i64 x) := by rw [List.getElem?_map, hx]; rfl
    (conv => whnf)
    (repeat' ((first | refine ord_ok (by (conv => whnf); (repeat' ((first | refine at_da hxd rfl ?_ | refine ify ?_ | refine ifn ?_ | refine i6 ?_ | refine ati ?_ | refine mst ?_ | refine rmd ?_ | refine ibo (fun _ => ?_) (fun _ => ?_)) <;> conv => whnf)); (all_goals (repeat' (first | exact trivial | exact rfl | refine And.intro ?_ ?_)))) ?_ | refine at_da hxd rfl ?_ | refine ify ?_ | refine ifn ?_ | refine i6 ?_ | refine ati ?_ | refine mst ?_ | refine rmd ?_ | refine ibo (fun _ => ?_) (fun _ => ?_)) <;> conv => whnf))
    refine call_eq rfl (edge_nil x) ?_
    ((conv => whnf); repeat' ((first | refine odw ?_ | refine ify ?_ | refine ifn ?_ | refine i6 ?_ | refine ati ?_ | refine mst ?_ | refine rmd ?_ | refine ibo (fun _ => ?_) (fun _ => ?_)) <;> conv => whnf))
    exact ⟨i + 1, _, _, hlt, .refl _ _, ⟨rfl, rfl, rfl, rfl, rfl, trivial⟩, trivial, by omega⟩
  · ((conv => whnf); repeat' ((first | refine odw ?_ | refine ify ?_ | refine ifn ?_ | refine i6 ?_ | refine ati ?_ | refine mst ?_ | refine rmd ?_ | refine ibo (fun _ => ?_) (fun _ => ?_)) <;> conv => whnf))
    exact rfl
def pl_lverts : List (Nat × Plan) := []
def G_lverts : List FuncId := []
theorem cok_lverts : codeOk Tryz.prog G_lverts pl_lverts (Tryz.f101.body.getD .skip) = true := by kernel_rfl
theorem run_lverts (vs : Array Value) (w : World) : (callFunc 101 vs).run C1.P w = .ok (.enter 101 vs) w := by kernel_rfl
theorem verts_pure (G : Gr) (l : List Int) (hb : l.length ≤ 2147483000) : Pure C1 101 [dG G, dIs l] (fun y => y = dIs (vertsOf (endsOf G.edges l))) := by
  refine pure_of c1_ok (pl := pl_lverts) (G := G_lverts) Tryz.func101 rfl Tryz.ntmps101 run_lverts cok_lverts (by simp) ?_
  ((conv => whnf); repeat' ((first | refine odw ?_ | refine ify ?_ | refine ifn ?_ | refine i6 ?_ | refine ati ?_ | refine mst ?_ | refine rmd ?_ | refine ibo (fun _ => ?_) (fun _ => ?_)) <;> conv => whnf))
  refine call_eq rfl (ends_pure G l (by omega)) ?_
  have hL := endsOf_len G.edges l
  generalize endsOf G.edges l = L at hL ⊢
  have hl : (L.map dE).length = L.length := List.length_map _
  ((conv => whnf); repeat' ((first | refine odw ?_ | refine ify ?_ | refine ifn ?_ | refine i6 ?_ | refine ati ?_ | refine mst ?_ | refine rmd ?_ | refine ibo (fun _ => ?_) (fun _ => ?_)) <;> conv => whnf))
  refine loop_lo (ι := Nat) (fun i => i ≤ L.length) (fun i => [(14, .d (.int .i64 i)), (13, .d (.int .i64 (L.map dE).length)), (12, .d (dEs L)), (5, .own 300)]) (fun i => [(300, .slice 3 1 ((vertsOf (L.take i)).map dI))]) (fun i => L.length - i) 0 (fun _ => rfl) (Nat.zero_le _)
    (.own 5 300 3 1 rfl rfl (.refl _ _)) ⟨rfl, rfl, rfl, rfl, trivial⟩ ⟨rfl, trivial⟩ ?_
  intro i hi
  refine sxCode_sound c1_ok (G := G_lverts) (pl := pl_lverts) _ _ _ _ (by kernel_rfl) ?_
  by_cases hlt : i < L.length
  · have hx := List.getElem?_eq_getElem hlt
    have htk := fun x (h : L[i]? = some x) => take_snoc h
    have hvl := vertsOf_len (L.take i)
    rw [List.length_take] at hvl
    generalize L[i] = e at hx
    obtain ⟨ea, eb⟩ := e
    have hxd : (L.map dE)[i]? = some (.agg [.int .i64 ea, .int .i64 eb]) := by rw [List.getElem?_map, hx]; rfl
    have hst : vertsOf (L.take (i + 1)) = addN (addN (vertsOf (L.take i)) ea) eb := by rw [htk _ hx, vertsOf_snoc]
    generalize vertsOf (L.take i) = out at hst hvl ⊢
    (conv => whnf)
    (repeat' ((first | refine ord_ok (by (conv => whnf); (repeat' ((first | refine at_da hxd rfl ?_ | refine ify ?_ | refine ifn ?_ | refine i6 ?_ | refine ati ?_ | refine mst ?_ | refine rmd ?_ | refine ibo (fun _ => ?_) (fun _ => ?_)) <;> conv => whnf)); (all_goals (repeat' (first | exact trivial | exact rfl | refine And.intro ?_ ?_)))) ?_ | refine at_da hxd rfl ?_ | refine ify ?_ | refine ifn ?_ | refine i6 ?_ | refine ati ?_ | refine mst ?_ | refine rmd ?_ | refine ibo (fun _ => ?_) (fun _ => ?_)) <;> conv => whnf))
    refine loop_lo (ι := Nat) (fun k => k ≤ 2) (fun k => [(24, .d (.int .i64 k)), (23, .d (.int .i64 2)), (22, .d (dIs [ea, eb])), (14, .d (.int .i64 i)), (13, .d (.int .i64 (L.map dE).length)), (12, .d (dEs L)), (5, .own 300)]) (fun k => [(300, .slice 3 1 ((([ea, eb].take k).foldl addN out).map dI))]) (fun k => 2 - k) 0 (fun _ => rfl) (Nat.zero_le _)
      (.frz 22 rfl (.refl _ _)) ⟨rfl, rfl, rfl, rfl, rfl, rfl, rfl, trivial⟩ ⟨rfl, trivial⟩ ?_
    intro k hk
    refine sxCode_sound c1_ok (G := G_lverts) (pl := pl_lverts) _ _ _ _ (by kernel_rfl) ?_
    have round : ∀ (x : Int) (o : List Int), [ea, eb][k]? = some x → ([ea, eb].take k).foldl addN out = o → ([ea, eb].take (k + 1)).foldl addN out = addN o x := fun x o h1 h2 => by
      rw [List.take_add_one, h1, List.foldl_append, h2]; rfl
    have hol : (([ea, eb].take k).foldl addN out).length ≤ out.length + 2 := by
      have a1 := addN_len out ea
      have a2 := addN_len (addN out ea) eb
      rcases (show k = 0 ∨ k = 1 ∨ k = 2 by omega) with rfl | rfl | rfl
      · simp
      · simp; omega
      · simp; omega
    by_cases hk2 : k < 2
    · obtain ⟨x, hxk⟩ : ∃ x, [ea, eb][k]? = some x := ⟨_, List.getElem?_eq_getElem hk2⟩
      have hxkd : ([ea, eb].map dI)[k]? = some (.int .i64 x) := by rw [List.getElem?_map, hxk]; rfl
      generalize ho : ([ea, eb].take k).foldl addN out = o at hol ⊢
      have hr := round x o hxk ho
      (conv => whnf)
      (repeat' ((first | refine ord_ok (by (conv => whnf); (repeat' ((first | refine at_da hxkd rfl ?_ | refine call_eqb tab rfl (contains_pure o x) rfl ?_ | refine ify ?_ | refine ifn ?_ | refine i6 ?_ | refine ati ?_ | refine mst ?_ | refine rmd ?_ | refine ibo (fun _ => ?_) (fun _ => ?_)) <;> conv => whnf)); (all_goals (repeat' (first | exact trivial | exact rfl | refine And.intro ?_ ?_)))) ?_ | refine at_da hxkd rfl ?_ | refine call_eqb tab rfl (contains_pure o x) rfl ?_ | refine ify ?_ | refine ifn ?_ | refine i6 ?_ | refine ati ?_ | refine mst ?_ | refine rmd ?_ | refine ibo (fun _ => ?_) (fun _ => ?_)) <;> conv => whnf))
      by_cases hin : x ∈ o
      · have hr2 : o.map dI = (([ea, eb].take (k + 1)).foldl addN out).map dI := by rw [hr]; unfold addN; rw [if_pos hin]
        rw [decide_eq_true hin]
        ((conv => whnf); repeat' ((first | refine odw ?_ | refine ify ?_ | refine ifn ?_ | refine i6 ?_ | refine ati ?_ | refine mst ?_ | refine rmd ?_ | refine ibo (fun _ => ?_) (fun _ => ?_)) <;> conv => whnf))
        exact ⟨k + 1, _, _, hk2, .refl _ _, ⟨rfl, rfl, rfl, rfl, rfl, rfl, rfl, trivial⟩, ⟨slice_is hr2, trivial⟩, by omega⟩
      · have hr2 : o.map dI ++ [.int .i64 x] = (([ea, eb].take (k + 1)).foldl addN out).map dI := by rw [hr]; unfold addN; rw [if_neg hin, List.map_append]; rfl
        rw [decide_eq_false hin]
        ((conv => whnf); repeat' ((first | refine odw ?_ | refine ify ?_ | refine ifn ?_ | refine i6 ?_ | refine ati ?_ | refine mst ?_ | refine rmd ?_ | refine ibo (fun _ => ?_) (fun _ => ?_)) <;> conv => whnf))
        exact ⟨k + 1, _, _, hk2, .refl _ _, ⟨rfl, rfl, rfl, rfl, rfl, rfl, rfl, trivial⟩, ⟨slice_is hr2, trivial⟩, by omega⟩
    · have : k = 2 := by omega
      subst this
      have hr2 : (([ea, eb].take 2).foldl addN out).map dI = (vertsOf (L.take (i + 1))).map dI := by rw [hst]; rfl
      ((conv => whnf); repeat' ((first | refine odw ?_ | refine ify ?_ | refine ifn ?_ | refine i6 ?_ | refine ati ?_ | refine mst ?_ | refine rmd ?_ | refine ibo (fun _ => ?_) (fun _ => ?_)) <;> conv => whnf))
      exact ⟨i + 1, _, _, hlt, .refl _ _, ⟨rfl, rfl, rfl, rfl, trivial⟩, ⟨slice_is hr2, trivial⟩, by omega⟩
  · have hii : L.take i = L := List.take_of_length_le (by omega)
    rw [hii]
    ((conv => whnf); repeat' ((first | refine odw ?_ | refine ify ?_ | refine ifn ?_ | refine i6 ?_ | refine ati ?_ | refine mst ?_ | refine rmd ?_ | refine ibo (fun _ => ?_) (fun _ => ?_)) <;> conv => whnf))
    exact rfl
end Go.Proofs.YteigfapjiekdnaaGreatDoor
end
