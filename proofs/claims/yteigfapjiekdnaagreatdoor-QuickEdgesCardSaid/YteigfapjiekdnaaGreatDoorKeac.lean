/- Merged: Grp Gri. -/
import Derived.Test.YteigfapjiekdnaaGreatDoorKeaa
section
/- Graphs: plain laws of the rows as they are being filled. -/
namespace Go.Gr

theorem lessOf_le (E : List Edg) (i v : Nat) : (lessOf (E.take i) v).length ≤ (lessOf E v).length := by
  unfold lessOf
  rw [List.length_map, List.length_map]
  exact ((List.take_sublist i E).filter _).length_le
theorem moreOf_le (E : List Edg) (i v : Nat) : (moreOf (E.take i) v).length ≤ (moreOf E v).length := by
  unfold moreOf
  rw [List.length_map, List.length_map]
  exact ((List.take_sublist i E).filter _).length_le
theorem deg_le (E : List Edg) (v : Nat) : deg E v ≤ E.length * 2 := by
  unfold deg nearOf lessOf moreOf
  rw [List.length_append, List.length_map, List.length_map]
  have h1 := List.length_filter_le (fun e : Edg => decide (e.b = (v : Int))) E
  have h2 := List.length_filter_le (fun e : Edg => decide (e.a = (v : Int))) E
  omega
/-- what stands in cell v while degrees are counted -/
def degAt (E : List Edg) : Nat → Int
  | 0 => 0
  | v + 1 => (deg E v : Int)
theorem degAt_le (E : List Edg) (v : Nat) : 0 ≤ degAt E v ∧ degAt E v ≤ E.length * 2 := by
  cases v with
  | zero => simp only [degAt]; omega
  | succ v => have := deg_le E v; simp only [degAt]; omega
theorem take_snoc {E : List Edg} {i : Nat} {e : Edg} (h : E[i]? = some e) : E.take (i + 1) = E.take i ++ [e] := by
  rw [List.take_add_one, h]; rfl
theorem degAt_step {E : List Edg} {i : Nat} {a b : Nat} (h : E[i]? = some ⟨(a : Int), (b : Int)⟩) (hab : a < b) (v : Nat) :
    degAt (E.take (i + 1)) v = if v = b + 1 then degAt (E.take i) (b + 1) + 1 else if v = a + 1 then degAt (E.take i) (a + 1) + 1 else degAt (E.take i) v := by
  rw [take_snoc h]
  cases v with
  | zero => simp [degAt]
  | succ v =>
    simp only [degAt, deg_snoc, Nat.add_right_cancel_iff]
    by_cases h1 : v = b
    · subst h1
      rw [if_pos rfl, if_pos rfl, if_neg (by omega)]; omega
    · rw [if_neg (by omega), if_neg h1]
      by_cases h2 : v = a
      · subst h2; rw [if_pos rfl, if_pos rfl]; omega
      · rw [if_neg (by omega), if_neg h2]; omega
/-- while the rows' beginnings are summed up -/
def sumAt (E : List Edg) (j v : Nat) : Int := if v ≤ j then (off (deg E) v : Int) else degAt E v
theorem sumAt_zero (E : List Edg) (v : Nat) : sumAt E 0 v = degAt E v := by
  cases v with
  | zero => rfl
  | succ v => simp [sumAt]
theorem sumAt_step (E : List Edg) (j v : Nat) : sumAt E (j + 1) v = if v = j + 1 then sumAt E j (j + 1) + sumAt E j j else sumAt E j v := by
  simp only [sumAt]
  by_cases h : v = j + 1
  · subst h
    rw [if_pos (Nat.le_refl _), if_pos rfl, if_neg (by omega), if_pos (Nat.le_refl _)]
    simp only [off, degAt]; omega
  · rw [if_neg h]
    by_cases h2 : v ≤ j
    · rw [if_pos (by omega), if_pos h2]
    · rw [if_neg (by omega), if_neg h2]
theorem off_le (E : List Edg) (n : Nat) (h : ∀ e ∈ E, 0 ≤ e.a ∧ e.a < n ∧ 0 ≤ e.b ∧ e.b < n) {v : Nat} (hv : v ≤ n) : off (deg E) v ≤ 2 * E.length := by
  have := off_mono (deg E) hv
  rw [off_deg E n h] at this
  exact this
/-! the rows as they are filled: lesser ones, then greater ones -/
def rowR (E : List Edg) (i j : Nat) (v : Nat) : List Int := lessOf (E.take i) v ++ moreOf (E.take j) v
def rowI (E : List Edg) (i j : Nat) (v : Nat) : List Int := lessIds (E.take i) v ++ moreIds (E.take j) v
theorem rowR_le (E : List Edg) (i j v : Nat) : (rowR E i j v).length ≤ deg E v := by
  unfold rowR deg nearOf
  rw [List.length_append, List.length_append]
  have := lessOf_le E i v
  have := moreOf_le E j v
  omega
theorem rowI_len (E : List Edg) (i j v : Nat) : (rowI E i j v).length = (rowR E i j v).length := by
  unfold rowR rowI
  rw [List.length_append, List.length_append, (ids_len _ v).1, (ids_len _ v).2]
theorem rowI_le (E : List Edg) (i j v : Nat) : (rowI E i j v).length ≤ deg E v := by rw [rowI_len]; exact rowR_le E i j v
theorem rowR_zero (E : List Edg) (v : Nat) : rowR E 0 0 v = [] := by simp [rowR, lessOf, moreOf]
theorem rowI_zero (E : List Edg) (v : Nat) : rowI E 0 0 v = [] := by simp [rowI, lessIds, moreIds]
theorem rowR_less {E : List Edg} {i : Nat} {a b : Nat} (h : E[i]? = some ⟨(a : Int), (b : Int)⟩) : rowR E (i + 1) 0 = more (rowR E i 0) b a := by
  funext v
  unfold rowR more
  rw [take_snoc h, (near_snoc _ _ _).1]
  simp only [List.take_zero, Int.natCast_inj]
  by_cases hv : v = b
  · subst hv; simp [moreOf]
  · have : ¬ b = v := fun e => hv e.symm
    simp [moreOf, hv, this]
theorem rowI_less {E : List Edg} {i : Nat} {a b : Nat} (h : E[i]? = some ⟨(a : Int), (b : Int)⟩) : rowI E (i + 1) 0 = more (rowI E i 0) b i := by
  funext v
  have hi : i < E.length := (List.getElem?_eq_some_iff.1 h).1
  unfold rowI more
  rw [take_snoc h, (ids_snoc _ _ _).1]
  simp only [List.take_zero, Int.natCast_inj, List.length_take, Nat.min_eq_left (Nat.le_of_lt hi)]
  by_cases hv : v = b
  · subst hv; simp [moreIds]
  · have : ¬ b = v := fun e => hv e.symm
    simp [moreIds, hv, this]
theorem rowR_more {E : List Edg} {k j : Nat} {a b : Nat} (h : E[j]? = some ⟨(a : Int), (b : Int)⟩) : rowR E k (j + 1) = more (rowR E k j) a b := by
  funext v
  unfold rowR more
  rw [take_snoc h, (near_snoc _ _ _).2]
  simp only [Int.natCast_inj]
  by_cases hv : v = a
  · subst hv; simp
  · have : ¬ a = v := fun e => hv e.symm
    simp [hv, this]
theorem rowI_more {E : List Edg} {k j : Nat} {a b : Nat} (h : E[j]? = some ⟨(a : Int), (b : Int)⟩) : rowI E k (j + 1) = more (rowI E k j) a j := by
  funext v
  have hj : j < E.length := (List.getElem?_eq_some_iff.1 h).1
  unfold rowI more
  rw [take_snoc h, (ids_snoc _ _ _).2]
  simp only [Int.natCast_inj, List.length_take, Nat.min_eq_left (Nat.le_of_lt hj)]
  by_cases hv : v = a
  · subst hv; simp
  · have : ¬ a = v := fun e => hv e.symm
    simp [hv, this]
theorem rowR_all (E : List Edg) : rowR E E.length E.length = nearOf E := by funext v; simp [rowR, nearOf]
theorem rowI_all (E : List Edg) : rowI E E.length E.length = idsOf E := by funext v; simp [rowI, idsOf]
theorem more_len (R : Nat → List Int) (v : Nat) (u : Int) (w : Nat) : ((more R v u w).length : Int) = if w = v then ((R v).length : Int) + 1 else (R w).length := by
  unfold more; split <;> simp
/-- there is room behind what a row holds already -/
theorem row_room {E : List Edg} {i j i' j' v : Nat} {u : Int} (h : rowR E i' j' = more (rowR E i j) v u) : (rowR E i j v).length < deg E v := by
  have := rowR_le E i' j' v
  rw [h] at this
  simp only [more, if_true, List.length_append, List.length_singleton] at this
  omega
theorem arr_none (n : Nat) (D : Nat → Nat) (R : Nat → List Int) (h : ∀ v, R v = []) : arr n R D = List.replicate (off D n) 0 := by
  induction n with
  | zero => rfl
  | succ n ih => rw [arr_succ, ih, h n]; simp [off, List.replicate_append_replicate]
end Go.Gr
end

section
/- Graphs: plain laws: edges put in order, one by one or all at once; what is beside a vertex, by the document. -/
namespace Go.Gr

def leE (x y : Edg) : Bool := decide (¬ cmpE y x < 0)
def canon (edges : List Edg) : List Edg := (edges.map turn).mergeSort leE
theorem canon_perm (edges : List Edg) : (canon edges).Perm (edges.map turn) := List.mergeSort_perm _ _
theorem canon_sorted (edges : List Edg) : (canon edges).Pairwise (fun x y => ¬ cmpE y x < 0) := by
  have h := List.pairwise_mergeSort (le := leE) (fun a b c h1 h2 => by
    simp only [leE, decide_eq_true_eq] at *
    intro h3
    rcases cmpE_tri a b with h | h | h
    · exact h2 (cmpE_trans h3 h)
    · subst h; exact h2 h3
    · exact h1 h) (fun a b => by
    simp only [leE, Bool.or_eq_true, decide_eq_true_eq]
    by_cases h : cmpE b a < 0
    · exact .inr (cmpE_asym h)
    · exact .inl h) (edges.map turn)
  exact h.imp (fun h => by simpa [leE] using h)
theorem canon_eq {edges E : List Edg} (hn : (edges.map turn).Nodup) (hp : E.Perm (edges.map turn)) (hs : E.Pairwise (fun x y => ¬ cmpE y x < 0)) : E = canon edges :=
  strict_eq (hp.trans (canon_perm edges).symm) (strict_of (hp.nodup_iff.2 hn) hs) (strict_of ((canon_perm edges).nodup_iff.2 hn) (canon_sorted edges))
theorem Strict.le {E : List Edg} (h : Strict E) : E.Pairwise (fun x y => ¬ cmpE y x < 0) := h.imp fun h => cmpE_asym h
theorem canon_ok {labels : List Int} {edges : List Edg} (h : newErr labels edges = none) : Gr.Ok ⟨labels, canon edges⟩ := graph_of h (canon_perm edges) (canon_sorted edges)
theorem canon_len (edges : List Edg) : (canon edges).length = edges.length := by rw [(canon_perm edges).length_eq, List.length_map]

/-! ### one put in at its place -/
def insAt (S : List Edg) (k : Nat) (e : Edg) : List Edg := S.take k ++ [e] ++ S.drop k
theorem insAt_perm (S : List Edg) (k : Nat) (e : Edg) : (insAt S k e).Perm (e :: S) := by
  unfold insAt
  rw [List.append_assoc, List.singleton_append]
  refine List.perm_middle.trans ?_
  rw [List.take_append_drop]
theorem insAt_strict {S : List Edg} {k : Nat} {e : Edg} (hS : Strict S) (h1 : ∀ x ∈ S.take k, cmpE x e < 0) (h2 : ∀ x, S[k]? = some x → ¬ cmpE x e < 0) (hn : e ∉ S) : Strict (insAt S k e) := by
  unfold insAt Strict
  rw [List.append_assoc, List.singleton_append, List.pairwise_append, List.pairwise_cons]
  have hS' := hS
  unfold Strict at hS'
  rw [← List.take_append_drop k S, List.pairwise_append] at hS'
  obtain ⟨g1, g2, g3⟩ := hS'
  have hhead : ∀ y ∈ S.drop k, cmpE e y < 0 := by
    intro y hy
    rcases hd : S.drop k with _ | ⟨x, l⟩
    · rw [hd] at hy; cases hy
    · have hx : S[k]? = some x := by
        have := congrArg List.head? hd
        simpa using this
      have hxs : x ∈ S := List.mem_of_getElem? hx
      have hex : cmpE e x < 0 := by
        rcases cmpE_tri e x with h | h | h
        · exact h
        · exact absurd (h ▸ hxs) hn
        · exact absurd h (h2 x hx)
      rw [hd] at hy g2
      rcases List.mem_cons.1 hy with h | h
      · exact h ▸ hex
      · exact cmpE_trans hex ((List.pairwise_cons.1 g2).1 y h)
  refine ⟨g1, ⟨hhead, g2⟩, ?_⟩
  intro a ha b hb
  rcases List.mem_cons.1 hb with h | h
  · exact h ▸ h1 a ha
  · exact g3 a ha b h

/-! ### an edge's number -/
def idE (E : List Edg) (e : Edg) : Int := match E.findIdx? (fun x => decide (x = e)) with
  | some i => (i : Int)
  | none => -1
theorem idE_at {E : List Edg} {e : Edg} {i : Nat} (h : E[i]? = some e) (hn : ∀ x ∈ E.take i, x ≠ e) : idE E e = i := by
  unfold idE
  have : E.findIdx? (fun x => decide (x = e)) = some i := by
    rw [List.findIdx?_eq_some_iff_getElem]
    obtain ⟨h1, h2⟩ := List.getElem?_eq_some_iff.1 h
    refine ⟨h1, by simp [h2], fun j hj => ?_⟩
    have := hn E[j] (List.mem_take_iff_getElem.2 ⟨j, by omega, rfl⟩)
    simp [this]
  rw [this]
theorem idE_none {E : List Edg} {e : Edg} (h : e ∉ E) : idE E e = -1 := by
  unfold idE
  have : E.findIdx? (fun x => decide (x = e)) = none := by
    rw [List.findIdx?_eq_none_iff]
    intro x hx
    have : x ≠ e := fun h' => h (h' ▸ hx)
    simp [this]
  rw [this]
theorem idE_nonneg {E : List Edg} {e : Edg} : 0 ≤ idE E e ↔ e ∈ E := by
  constructor
  · intro h
    refine Classical.byContradiction fun hn => ?_
    rw [idE_none hn] at h; omega
  · intro h
    unfold idE
    split
    · omega
    · rename_i hn
      rw [List.findIdx?_eq_none_iff] at hn
      have := hn e h
      simp at this
/-! ### the reference's way: edges put in one by one -/
structure Part (edges : List Edg) (i : Nat) (S : List Edg) : Prop where
  strict : Strict S
  perm : S.Perm ((edges.take i).map turn)
theorem Part.zero (edges : List Edg) : Part edges 0 [] := ⟨List.Pairwise.nil, by simp⟩
theorem Part.next {edges S : List Edg} {i k : Nat} {e : Edg} (h : Part edges i S) (he : edges[i]? = some e) (hn : turn e ∉ S) (h1 : ∀ x ∈ S.take k, cmpE x (turn e) < 0) (h2 : ∀ x, S[k]? = some x → ¬ cmpE x (turn e) < 0) : Part edges (i + 1) (insAt S k (turn e)) := by
  refine ⟨insAt_strict h.strict h1 h2 hn, (insAt_perm _ _ _).trans ?_⟩
  rw [take_snoc he, List.map_append]
  simp only [List.map_cons, List.map_nil]
  exact (List.Perm.cons _ h.perm).trans (List.perm_append_comm (l₁ := [turn e]))
theorem Part.mem {edges S : List Edg} {i : Nat} (h : Part edges i S) (e : Edg) : e ∈ S ↔ e ∈ (edges.take i).map turn := h.perm.mem_iff
theorem Part.all {edges S : List Edg} {i : Nat} (h : Part edges i S) (hi : edges.length ≤ i) : S = canon edges := by
  have hp := h.perm
  rw [List.take_of_length_le hi] at hp
  exact canon_eq (hp.nodup_iff.1 h.strict.nodup) hp h.strict.le

/-! ### rising lists -/
theorem rise_eq : ∀ {l1 l2 : List Int}, l1.Pairwise (· < ·) → l2.Pairwise (· < ·) → (∀ x, x ∈ l1 ↔ x ∈ l2) → l1 = l2
  | [], [], _, _, _ => rfl
  | [], y :: l2, _, _, h => absurd ((h y).2 (by simp)) (by simp)
  | x :: l1, [], _, _, h => absurd ((h x).1 (by simp)) (by simp)
  | x :: l1, y :: l2, h1, h2, h => by
    have g1 := List.pairwise_cons.1 h1
    have g2 := List.pairwise_cons.1 h2
    have hxy : x = y := by
      rcases List.mem_cons.1 ((h x).1 (by simp)) with e | e
      · exact e
      · rcases List.mem_cons.1 ((h y).2 (by simp)) with e' | e'
        · exact e'.symm
        · have := g2.1 x e; have := g1.1 y e'; omega
    subst hxy
    rw [rise_eq g1.2 g2.2 fun z => ?_]
    constructor
    · intro hz
      rcases List.mem_cons.1 ((h z).1 (by simp [hz])) with e | e
      · have := g1.1 z hz; omega
      · exact e
    · intro hz
      rcases List.mem_cons.1 ((h z).2 (by simp [hz])) with e | e
      · have := g2.1 z hz; omega
      · exact e
end Go.Gr
end
