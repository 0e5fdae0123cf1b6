/- Merged: Lna. -/
import Derived.Test.YtjejpdfldmempaaGreatDoorlgac
section
namespace Go.Gr
def pairUp : List Int → List Edg
 | [] => []
 | a :: l => l.map (fun b => ⟨a, b⟩) ++ pairUp l
theorem pairUp_mem : ∀ {l : List Int}, l.Pairwise (· < ·) → ∀ {e : Edg}, e ∈ pairUp l ↔ e.a ∈ l ∧ e.b ∈ l ∧ e.a < e.b
 | [], _, e => by simp [pairUp]
 | x :: l, h, e => by
   have g := List.pairwise_cons.1 h
   simp only [pairUp, List.mem_append, List.mem_map, pairUp_mem g.2, List.mem_cons]
   constructor
   ·rintro (⟨b, hb, rfl⟩ | ⟨h1, h2, h3⟩)
    ·exact ⟨.inl rfl, .inr hb, g.1 b hb⟩
    ·exact ⟨.inr h1, .inr h2, h3⟩
   ·rintro ⟨h1 | h1, h2 | h2, h3⟩
    ·omega
    ·exact .inl ⟨e.b, h2, by cases e; simp_all⟩
    ·have := g.1 _ h1; omega
    ·exact .inr ⟨h1, h2, h3⟩
theorem pairUp_nodup : ∀ {l : List Int}, l.Pairwise (· < ·) → (pairUp l).Nodup
 | [], _ => by simp [pairUp]
 | x :: l, h => by
   have g := List.pairwise_cons.1 h
   simp only [pairUp]
   rw [List.nodup_append]
   refine ⟨?_, pairUp_nodup g.2, ?_⟩
   ·have hn : l.Nodup := g.2.imp (fun h => by omega)
    unfold List.Nodup
    rw [List.pairwise_map]
    exact hn.imp fun h e => h (by cases e; rfl)
   ·intro a ha b hb e
    subst e
    obtain ⟨y, hy, rfl⟩ := List.mem_map.1 ha
    have := (pairUp_mem g.2).1 hb
    have := g.1 _ this.1
    simp only at this
    omega
def pairsN (d : Nat) : Nat := d * (d - 1) / 2
theorem pairsN_succ (d : Nat) : pairsN (d + 1) = d + pairsN d := by
 unfold pairsN
 cases d with
 | zero => rfl
 | succ d =>
   simp only [Nat.add_sub_cancel]
   have h : (d + 1 + 1) * (d + 1) = (d + 1) * 2 + (d + 1) * d := by
    rw [← Nat.mul_add, Nat.mul_comm, Nat.add_comm 2 d]
   rw [h, Nat.add_comm, Nat.add_mul_div_right _ _ (by omega)]
   omega
theorem pairUp_len : ∀ l : List Int, (pairUp l).length = pairsN l.length
 | [] => rfl
 | x :: l => by
   simp only [pairUp, List.length_append, List.length_map, pairUp_len l, List.length_cons, pairsN_succ]
theorem strict_mem_eq : ∀ {l1 l2 : List Edg}, Strict l1 → Strict l2 → (∀ x, x ∈ l1 ↔ x ∈ l2) → l1 = l2 := by
 intro l1 l2 h1 h2 h
 refine strict_eq ?_ h1 h2
 have n1 := h1.nodup
 have n2 := h2.nodup
 exact (List.perm_ext_iff_of_nodup n1 n2).2 h
def tch (E : List Edg) (i j : Nat) : Bool := match E[i]?, E[j]? with
 | some x, some y => decide (i ≠ j) && (decide (x.a = y.a) || decide (x.a = y.b) || decide (x.b = y.a) || decide (x.b = y.b))
 | _, _ => false
def rowW (E : List Edg) (a k : Nat) : List Edg := ((List.range k).filter (fun b : Nat => decide (a < b) && tch E a b)).map fun b : Nat => ⟨(a : Int), (b : Int)⟩
def wantW (E : List Edg) (k : Nat) : List Edg := (List.range k).flatMap fun a => rowW E a E.length
theorem rowW_step (E : List Edg) (a k : Nat) : rowW E a (k + 1) = rowW E a k ++ (if a < k ∧ tch E a k = true then [⟨(a : Int), (k : Int)⟩] else []) := by
 unfold rowW
 rw [List.range_succ, List.filter_append, List.map_append]
 congr 1
 by_cases h : a < k <;> cases ht : tch E a k <;> simp [h, ht]
theorem rowW_start (E : List Edg) (a : Nat) : rowW E a (a + 1) = [] := by
 unfold rowW
 have : (List.range (a + 1)).filter (fun b : Nat => decide (a < b) && tch E a b) = [] := by
  rw [List.filter_eq_nil_iff]
  intro b hb
  have := List.mem_range.1 hb
  have h : ¬ a < b := by omega
  simp [h]
 rw [this]; rfl
theorem wantW_step (E : List Edg) (k : Nat) : wantW E (k + 1) = wantW E k ++ rowW E k E.length := by
 simp [wantW, List.range_succ]
theorem mem_rowW {E : List Edg} {a k : Nat} {e : Edg} : e ∈ rowW E a k ↔ ∃ b : Nat, b < k ∧ a < b ∧ tch E a b = true ∧ e = ⟨(a : Int), (b : Int)⟩ := by
 simp only [rowW, List.mem_map, List.mem_filter, List.mem_range, Bool.and_eq_true, decide_eq_true_eq]
 constructor
 ·rintro ⟨b, ⟨h1, h2, h3⟩, rfl⟩; exact ⟨b, h1, h2, h3, rfl⟩
 ·rintro ⟨b, h1, h2, h3, rfl⟩; exact ⟨b, ⟨h1, h2, h3⟩, rfl⟩
theorem mem_wantW {E : List Edg} {k : Nat} {e : Edg} : e ∈ wantW E k ↔ ∃ a b : Nat, a < k ∧ b < E.length ∧ a < b ∧ tch E a b = true ∧ e = ⟨(a : Int), (b : Int)⟩ := by
 simp only [wantW, List.mem_flatMap, List.mem_range, mem_rowW]
 constructor
 ·rintro ⟨a, ha, b, h1, h2, h3, rfl⟩; exact ⟨a, b, ha, h1, h2, h3, rfl⟩
 ·rintro ⟨a, b, ha, h1, h2, h3, rfl⟩; exact ⟨a, ha, b, h1, h2, h3, rfl⟩
theorem rowW_strict (E : List Edg) (a k : Nat) : Strict (rowW E a k) := by
 unfold rowW Strict
 rw [List.pairwise_map]
 refine (List.pairwise_lt_range.filter _).imp fun h => ?_
 rw [cmpE_lt]
 exact .inr ⟨rfl, Int.ofNat_lt.2 h⟩
theorem wantW_strict (E : List Edg) (k : Nat) : Strict (wantW E k) := by
 induction k with
 | zero => exact List.Pairwise.nil
 | succ k ih =>
   rw [wantW_step]
   unfold Strict
   rw [List.pairwise_append]
   refine ⟨ih, rowW_strict _ _ _, fun x hx y hy => ?_⟩
   obtain ⟨a, b, h1, h2, h3, h4, rfl⟩ := mem_wantW.1 hx
   obtain ⟨c, h5, h6, h7, rfl⟩ := mem_rowW.1 hy
   rw [cmpE_lt]; simp only; omega
theorem mem_atD {E : List Edg} {v : Nat} {x : Int} : x ∈ atD E v ↔ ∃ (i : Nat) (e : Edg), x = (i : Int) ∧ E[i]? = some e ∧ (e.a = v ∨ e.b = v) := by
 simp only [atD, List.mem_map, List.mem_filter, decide_eq_true_eq]
 constructor
 ·rintro ⟨p, ⟨h1, h2⟩, rfl⟩
  exact ⟨p.2, p.1, rfl, List.mem_zipIdx_iff_getElem?.1 h1, h2⟩
 ·rintro ⟨i, e, rfl, h1, h2⟩
  exact ⟨(e, i), ⟨List.mem_zipIdx_iff_getElem?.2 h1, h2⟩, rfl⟩
theorem atD_rise (E : List Edg) (v : Nat) : (atD E v).Pairwise (· < ·) := zipIdx_rise _ _
def pairsOf (E : List Edg) (n : Nat) : List Edg := (List.range n).flatMap fun v => pairUp (atD E v)
theorem pairsOf_step (E : List Edg) (n : Nat) : pairsOf E (n + 1) = pairsOf E n ++ pairUp (atD E n) := by simp [pairsOf, List.range_succ]
theorem mem_pairUp_at {E : List Edg} {v : Nat} {e : Edg} : e ∈ pairUp (atD E v) ↔ ∃ (i j : Nat) (x y : Edg), e = ⟨(i : Int), (j : Int)⟩ ∧ i < j ∧ E[i]? = some x ∧ E[j]? = some y ∧ (x.a = v ∨ x.b = v) ∧ (y.a = v ∨ y.b = v) := by
 rw [pairUp_mem (atD_rise E v), mem_atD, mem_atD]
 constructor
 ·rintro ⟨⟨i, x, h1, h2, h3⟩, ⟨j, y, h4, h5, h6⟩, h7⟩
  exact ⟨i, j, x, y, by cases e; simp_all, by omega, h2, h5, h3, h6⟩
 ·rintro ⟨i, j, x, y, rfl, h1, h2, h3, h4, h5⟩
  exact ⟨⟨i, x, rfl, h2, h4⟩, ⟨j, y, rfl, h3, h5⟩, by simp only; omega⟩
theorem one_share {G : Gr} (h : G.Ok) {i j : Nat} {x y : Edg} (hi : G.edges[i]? = some x) (hj : G.edges[j]? = some y) (hij : i < j) {u v : Nat} (h1 : x.a = u ∨ x.b = u) (h2 : y.a = u ∨ y.b = u) (h3 : x.a = v ∨ x.b = v) (h4 : y.a = v ∨ y.b = v) : u = v := by
 obtain ⟨l1, e1⟩ := List.getElem?_eq_some_iff.1 hi
 obtain ⟨l2, e2⟩ := List.getElem?_eq_some_iff.1 hj
 have hs := List.pairwise_iff_getElem.1 h.sorted i j l1 l2 hij
 rw [e1, e2, cmpE_lt] at hs
 have hx := h.edge x (List.mem_of_getElem? hi)
 have hy := h.edge y (List.mem_of_getElem? hj)
 omega
theorem pairsOf_nodup {G : Gr} (h : G.Ok) (n : Nat) : (pairsOf G.edges n).Nodup := by
 induction n with
 | zero => simp [pairsOf]
 | succ n ih =>
   rw [pairsOf_step, List.nodup_append]
   refine ⟨ih, pairUp_nodup (atD_rise _ _), fun a ha b hb e => ?_⟩
   subst e
   simp only [pairsOf, List.mem_flatMap, List.mem_range] at ha
   obtain ⟨v, hv, ha⟩ := ha
   obtain ⟨i, j, x, y, rfl, h1, h2, h3, h4, h5⟩ := mem_pairUp_at.1 ha
   obtain ⟨i', j', x', y', he, h1', h2', h3', h4', h5'⟩ := mem_pairUp_at.1 hb
   simp only [Edg.mk.injEq, Int.natCast_inj] at he
   obtain ⟨rfl, rfl⟩ := he
   rw [h2] at h2'; rw [h3] at h3'
   cases h2'; cases h3'
   have := one_share h h2 h3 h1 h4 h5 h4' h5'
   omega
theorem mem_pairsOf {G : Gr} (h : G.Ok) {e : Edg} : e ∈ pairsOf G.edges G.labels.length ↔ e ∈ wantW G.edges G.edges.length := by
 simp only [pairsOf, List.mem_flatMap, List.mem_range, mem_pairUp_at, mem_wantW]
 constructor
 ·rintro ⟨v, hv, i, j, x, y, rfl, h1, h2, h3, h4, h5⟩
  have l1 := (List.getElem?_eq_some_iff.1 h2).1
  have l2 := (List.getElem?_eq_some_iff.1 h3).1
  refine ⟨i, j, l1, l2, h1, ?_, rfl⟩
  unfold tch
  rw [h2, h3]
  have : i ≠ j := by omega
  simp only [this, ne_eq, not_false_eq_true, decide_true, Bool.true_and, Bool.or_eq_true, decide_eq_true_eq]
  omega
 ·rintro ⟨i, j, l1, l2, h1, ht, rfl⟩
  unfold tch at ht
  have hx := List.getElem?_eq_getElem l1
  have hy := List.getElem?_eq_getElem l2
  rw [hx, hy] at ht
  simp only [Bool.and_eq_true, Bool.or_eq_true, decide_eq_true_eq] at ht
  have ex := h.edge _ (List.getElem_mem l1)
  have ey := h.edge _ (List.getElem_mem l2)
  generalize G.edges[i] = x at *
  generalize G.edges[j] = y at *
  have key : ∀ v : Int, 0 ≤ v → v < G.labels.length → (x.a = v ∨ x.b = v) → (y.a = v ∨ y.b = v) → ∃ a : Nat, a < G.labels.length ∧ ∃ (i_1 j_1 : Nat) (x y : Edg), (⟨(i : Int), (j : Int)⟩ : Edg) = ⟨(i_1 : Int), (j_1 : Int)⟩ ∧ i_1 < j_1 ∧ G.edges[i_1]? = some x ∧ G.edges[j_1]? = some y ∧ (x.a = (a : Int) ∨ x.b = (a : Int)) ∧ (y.a = (a : Int) ∨ y.b = (a : Int)) := by
   intro v h0 hn g1 g2
   obtain ⟨m, rfl⟩ := Int.eq_ofNat_of_zero_le h0
   exact ⟨m, by omega, i, j, x, y, rfl, h1, hx, hy, g1, g2⟩
  obtain ⟨_, ((h | h) | h) | h⟩ := ht
  ·exact key x.a (by omega) (by omega) (.inl rfl) (.inl h.symm)
  ·exact key x.a (by omega) (by omega) (.inl rfl) (.inr h.symm)
  ·exact key x.b (by omega) (by omega) (.inr rfl) (.inl h.symm)
  ·exact key x.b (by omega) (by omega) (.inr rfl) (.inr h.symm)
theorem pairsOf_le {G : Gr} (h : G.Ok) {e : Edg} (he : e ∈ pairsOf G.edges G.labels.length) : 0 ≤ e.a ∧ e.a < e.b ∧ e.b < G.edges.length := by
 rw [mem_pairsOf h, mem_wantW] at he
 obtain ⟨i, j, h1, h2, h3, _, rfl⟩ := he
 exact ⟨by simp only; omega, by simp only; omega, by simp only; omega⟩
theorem map_turn_le {l : List Edg} (h : ∀ e ∈ l, e.a ≤ e.b) : l.map turn = l := by
 induction l with
 | nil => rfl
 | cons e l ih => rw [List.map_cons, turn_le (h e (by simp)), ih fun x hx => h x (by simp [hx])]
theorem lines_newErr {G : Gr} (h : G.Ok) (hm : G.edges.length ≤ 4096) (hp : (pairsOf G.edges G.labels.length).length ≤ 16384) : newErr (List.replicate G.edges.length 0) (pairsOf G.edges G.labels.length) = none := by
 refine newErr_none (by rw [List.length_replicate]; omega) (fun x hx => by rw [(List.mem_replicate.1 hx).2]; rfl) fun j hj => ?_
 unfold ecodeAt
 rw [List.getElem?_eq_getElem hj]
 simp only [ecode, List.length_replicate]
 have he := pairsOf_le h (List.getElem_mem hj)
 have hnd := pairsOf_nodup h G.labels.length
 have hmt : ((pairsOf G.edges G.labels.length).take j).map turn = (pairsOf G.edges G.labels.length).take j := map_turn_le fun e he => by
  have := pairsOf_le h (List.mem_of_mem_take he); omega
 rw [hmt]
 have hnot : turn (pairsOf G.edges G.labels.length)[j] ∉ (pairsOf G.edges G.labels.length).take j := by
  rw [turn_le (by omega)]
  intro hmem
  obtain ⟨k, hk, e⟩ := List.mem_take_iff_getElem.1 hmem
  have h2 := (List.pairwise_iff_getElem.1 hnd) k j (by omega) hj (by omega)
  exact h2 e
 rw [if_neg (by omega), if_neg (by omega), if_neg hnot]
theorem lines_canon {G : Gr} (h : G.Ok) : canon (pairsOf G.edges G.labels.length) = wantW G.edges G.edges.length := by
 have hmt : (pairsOf G.edges G.labels.length).map turn = pairsOf G.edges G.labels.length := map_turn_le fun e he => by
  have := pairsOf_le h he; omega
 refine strict_mem_eq ?_ (wantW_strict _ _) fun x => ?_
 ·refine strict_of ((canon_perm _).nodup_iff.2 ?_) (canon_sorted _)
  rw [hmt]; exact pairsOf_nodup h _
 ·rw [(canon_perm _).mem_iff, hmt, mem_pairsOf h]
theorem atD_len (E : List Edg) (v : Nat) (h : ∀ e ∈ E, e.a ≠ e.b) : (atD E v).length = deg E v := by
 have key : ∀ (E : List Edg), (∀ e ∈ E, e.a ≠ e.b) → ∀ k, ((E.zipIdx k).filter fun p => decide (p.1.a = (v : Int) ∨ p.1.b = (v : Int))).length = (lessOf E v).length + (moreOf E v).length := by
  intro E
  induction E with
  | nil => intro _ k; rfl
  | cons e E ih =>
    intro h k
    have := ih (fun x hx => h x (by simp [hx])) (k + 1)
    have hne := h e (by simp)
    simp only [List.zipIdx_cons, List.filter_cons, lessOf, moreOf] at this ⊢
    by_cases h1 : e.a = (v : Int) <;> by_cases h2 : e.b = (v : Int)
    ·omega
    ·have e1 : (decide (e.a = (v : Int) ∨ e.b = (v : Int))) = true := by simp [h1]
     rw [e1]; simp only [h1, h2, decide_true, decide_false, if_true, if_false, List.length_cons, List.map_cons, Bool.false_eq_true]; omega
    ·have e1 : (decide (e.a = (v : Int) ∨ e.b = (v : Int))) = true := by simp [h2]
     rw [e1]; simp only [h1, h2, decide_true, decide_false, if_true, if_false, List.length_cons, List.map_cons, Bool.false_eq_true]; omega
    ·have e1 : (decide (e.a = (v : Int) ∨ e.b = (v : Int))) = false := by simp [h1, h2]
     rw [e1]; simp only [h1, h2, decide_false, if_false, Bool.false_eq_true]; omega
 unfold atD deg nearOf
 rw [List.length_map, List.length_append]
 exact key E h 0
end Go.Gr
end
