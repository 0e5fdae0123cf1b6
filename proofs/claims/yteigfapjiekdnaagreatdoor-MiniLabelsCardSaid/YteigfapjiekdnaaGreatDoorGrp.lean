/- Graphs: plain laws of the rows as they are being filled. -/
import Derived.Test.YteigfapjiekdnaaGreatDoorGra
namespace Go.Gr

theorem lessOf_le (E : List Edg) (i v : Nat) : (lessOf (E.take i) v).length ≤ (lessOf E v).length := by
  unfold lessOf
  rw [List.length_map, List.length_map]
  exact ((List.take_sublist i E).filter _).length_le
theorem moreOf_le (E : List Edg) (i v : Nat) : (moreOf (E.take i) v).length ≤ (moreOf E v).length := by
  unfold moreOf
  rw [List.length_map, List.length_map]
  exact ((List.take_sublist i E).filter _).length_le
theorem deg_le (E : List Edg) (v : Nat) : deg E v ≤ E.length * 2 := by
  unfold deg nearOf lessOf moreOf
  rw [List.length_append, List.length_map, List.length_map]
  have h1 := List.length_filter_le (fun e : Edg => decide (e.b = (v : Int))) E
  have h2 := List.length_filter_le (fun e : Edg => decide (e.a = (v : Int))) E
  omega
/-- what stands in cell v while degrees are counted -/
def degAt (E : List Edg) : Nat → Int
  | 0 => 0
  | v + 1 => (deg E v : Int)
theorem degAt_le (E : List Edg) (v : Nat) : 0 ≤ degAt E v ∧ degAt E v ≤ E.length * 2 := by
  cases v with
  | zero => simp only [degAt]; omega
  | succ v => have := deg_le E v; simp only [degAt]; omega
theorem take_snoc {E : List Edg} {i : Nat} {e : Edg} (h : E[i]? = some e) : E.take (i + 1) = E.take i ++ [e] := by
  rw [List.take_add_one, h]; rfl
theorem degAt_step {E : List Edg} {i : Nat} {a b : Nat} (h : E[i]? = some ⟨(a : Int), (b : Int)⟩) (hab : a < b) (v : Nat) :
    degAt (E.take (i + 1)) v = if v = b + 1 then degAt (E.take i) (b + 1) + 1 else if v = a + 1 then degAt (E.take i) (a + 1) + 1 else degAt (E.take i) v := by
  rw [take_snoc h]
  cases v with
  | zero => simp [degAt]
  | succ v =>
    simp only [degAt, deg_snoc, Nat.add_right_cancel_iff]
    by_cases h1 : v = b
    · subst h1
      rw [if_pos rfl, if_pos rfl, if_neg (by omega)]; omega
    · rw [if_neg (by omega), if_neg h1]
      by_cases h2 : v = a
      · subst h2; rw [if_pos rfl, if_pos rfl]; omega
      · rw [if_neg (by omega), if_neg h2]; omega
/-- while the rows' beginnings are summed up -/
def sumAt (E : List Edg) (j v : Nat) : Int := if v ≤ j then (off (deg E) v : Int) else degAt E v
theorem sumAt_zero (E : List Edg) (v : Nat) : sumAt E 0 v = degAt E v := by
  cases v with
  | zero => rfl
  | succ v => simp [sumAt]
theorem sumAt_step (E : List Edg) (j v : Nat) : sumAt E (j + 1) v = if v = j + 1 then sumAt E j (j + 1) + sumAt E j j else sumAt E j v := by
  simp only [sumAt]
  by_cases h : v = j + 1
  · subst h
    rw [if_pos (Nat.le_refl _), if_pos rfl, if_neg (by omega), if_pos (Nat.le_refl _)]
    simp only [off, degAt]; omega
  · rw [if_neg h]
    by_cases h2 : v ≤ j
    · rw [if_pos (by omega), if_pos h2]
    · rw [if_neg (by omega), if_neg h2]
theorem off_le (E : List Edg) (n : Nat) (h : ∀ e ∈ E, 0 ≤ e.a ∧ e.a < n ∧ 0 ≤ e.b ∧ e.b < n) {v : Nat} (hv : v ≤ n) : off (deg E) v ≤ 2 * E.length := by
  have := off_mono (deg E) hv
  rw [off_deg E n h] at this
  exact this
/-! the rows as they are filled: lesser ones, then greater ones -/
def rowR (E : List Edg) (i j : Nat) (v : Nat) : List Int := lessOf (E.take i) v ++ moreOf (E.take j) v
def rowI (E : List Edg) (i j : Nat) (v : Nat) : List Int := lessIds (E.take i) v ++ moreIds (E.take j) v
theorem rowR_le (E : List Edg) (i j v : Nat) : (rowR E i j v).length ≤ deg E v := by
  unfold rowR deg nearOf
  rw [List.length_append, List.length_append]
  have := lessOf_le E i v
  have := moreOf_le E j v
  omega
theorem rowI_len (E : List Edg) (i j v : Nat) : (rowI E i j v).length = (rowR E i j v).length := by
  unfold rowR rowI
  rw [List.length_append, List.length_append, (ids_len _ v).1, (ids_len _ v).2]
theorem rowI_le (E : List Edg) (i j v : Nat) : (rowI E i j v).length ≤ deg E v := by rw [rowI_len]; exact rowR_le E i j v
theorem rowR_zero (E : List Edg) (v : Nat) : rowR E 0 0 v = [] := by simp [rowR, lessOf, moreOf]
theorem rowI_zero (E : List Edg) (v : Nat) : rowI E 0 0 v = [] := by simp [rowI, lessIds, moreIds]
theorem rowR_less {E : List Edg} {i : Nat} {a b : Nat} (h : E[i]? = some ⟨(a : Int), (b : Int)⟩) : rowR E (i + 1) 0 = more (rowR E i 0) b a := by
  funext v
  unfold rowR more
  rw [take_snoc h, (near_snoc _ _ _).1]
  simp only [List.take_zero, Int.natCast_inj]
  by_cases hv : v = b
  · subst hv; simp [moreOf]
  · have : ¬ b = v := fun e => hv e.symm
    simp [moreOf, hv, this]
theorem rowI_less {E : List Edg} {i : Nat} {a b : Nat} (h : E[i]? = some ⟨(a : Int), (b : Int)⟩) : rowI E (i + 1) 0 = more (rowI E i 0) b i := by
  funext v
  have hi : i < E.length := (List.getElem?_eq_some_iff.1 h).1
  unfold rowI more
  rw [take_snoc h, (ids_snoc _ _ _).1]
  simp only [List.take_zero, Int.natCast_inj, List.length_take, Nat.min_eq_left (Nat.le_of_lt hi)]
  by_cases hv : v = b
  · subst hv; simp [moreIds]
  · have : ¬ b = v := fun e => hv e.symm
    simp [moreIds, hv, this]
theorem rowR_more {E : List Edg} {k j : Nat} {a b : Nat} (h : E[j]? = some ⟨(a : Int), (b : Int)⟩) : rowR E k (j + 1) = more (rowR E k j) a b := by
  funext v
  unfold rowR more
  rw [take_snoc h, (near_snoc _ _ _).2]
  simp only [Int.natCast_inj]
  by_cases hv : v = a
  · subst hv; simp
  · have : ¬ a = v := fun e => hv e.symm
    simp [hv, this]
theorem rowI_more {E : List Edg} {k j : Nat} {a b : Nat} (h : E[j]? = some ⟨(a : Int), (b : Int)⟩) : rowI E k (j + 1) = more (rowI E k j) a j := by
  funext v
  have hj : j < E.length := (List.getElem?_eq_some_iff.1 h).1
  unfold rowI more
  rw [take_snoc h, (ids_snoc _ _ _).2]
  simp only [Int.natCast_inj, List.length_take, Nat.min_eq_left (Nat.le_of_lt hj)]
  by_cases hv : v = a
  · subst hv; simp
  · have : ¬ a = v := fun e => hv e.symm
    simp [hv, this]
theorem rowR_all (E : List Edg) : rowR E E.length E.length = nearOf E := by funext v; simp [rowR, nearOf]
theorem rowI_all (E : List Edg) : rowI E E.length E.length = idsOf E := by funext v; simp [rowI, idsOf]
theorem more_len (R : Nat → List Int) (v : Nat) (u : Int) (w : Nat) : ((more R v u w).length : Int) = if w = v then ((R v).length : Int) + 1 else (R w).length := by
  unfold more; split <;> simp
/-- there is room behind what a row holds already -/
theorem row_room {E : List Edg} {i j i' j' v : Nat} {u : Int} (h : rowR E i' j' = more (rowR E i j) v u) : (rowR E i j v).length < deg E v := by
  have := rowR_le E i' j' v
  rw [h] at this
  simp only [more, if_true, List.length_append, List.length_singleton] at this
  omega
theorem arr_none (n : Nat) (D : Nat → Nat) (R : Nat → List Int) (h : ∀ v, R v = []) : arr n R D = List.replicate (off D n) 0 := by
  induction n with
  | zero => rfl
  | succ n ih => rw [arr_succ, ih, h n]; simp [off, List.replicate_append_replicate]
end Go.Gr
