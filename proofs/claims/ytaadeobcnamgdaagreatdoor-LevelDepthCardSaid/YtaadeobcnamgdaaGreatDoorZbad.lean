/- Merged: Gri. -/
import Derived.Test.YtaadeobcnamgdaaGreatDoorZbac
section
/- Graphs: plain laws: edges put in order, one by one or all at once; what is beside a vertex, by the document. -/
namespace Go.Gr

def leE (x y : Edg) : Bool := decide (¬ cmpE y x < 0)
def canon (edges : List Edg) : List Edg := (edges.map turn).mergeSort leE
theorem canon_perm (edges : List Edg) : (canon edges).Perm (edges.map turn) := List.mergeSort_perm _ _
theorem canon_sorted (edges : List Edg) : (canon edges).Pairwise (fun x y => ¬ cmpE y x < 0) := by
  have h := List.pairwise_mergeSort (le := leE) (fun a b c h1 h2 => by
    simp only [leE, decide_eq_true_eq] at *
    intro h3
    rcases cmpE_tri a b with h | h | h
    · exact h2 (cmpE_trans h3 h)
    · subst h; exact h2 h3
    · exact h1 h) (fun a b => by
    simp only [leE, Bool.or_eq_true, decide_eq_true_eq]
    by_cases h : cmpE b a < 0
    · exact .inr (cmpE_asym h)
    · exact .inl h) (edges.map turn)
  exact h.imp (fun h => by simpa [leE] using h)
theorem canon_eq {edges E : List Edg} (hn : (edges.map turn).Nodup) (hp : E.Perm (edges.map turn)) (hs : E.Pairwise (fun x y => ¬ cmpE y x < 0)) : E = canon edges :=
  strict_eq (hp.trans (canon_perm edges).symm) (strict_of (hp.nodup_iff.2 hn) hs) (strict_of ((canon_perm edges).nodup_iff.2 hn) (canon_sorted edges))
theorem Strict.le {E : List Edg} (h : Strict E) : E.Pairwise (fun x y => ¬ cmpE y x < 0) := h.imp fun h => cmpE_asym h
theorem canon_ok {labels : List Int} {edges : List Edg} (h : newErr labels edges = none) : Gr.Ok ⟨labels, canon edges⟩ := graph_of h (canon_perm edges) (canon_sorted edges)
theorem canon_len (edges : List Edg) : (canon edges).length = edges.length := by rw [(canon_perm edges).length_eq, List.length_map]

/-! ### one put in at its place -/
def insAt (S : List Edg) (k : Nat) (e : Edg) : List Edg := S.take k ++ [e] ++ S.drop k
theorem insAt_perm (S : List Edg) (k : Nat) (e : Edg) : (insAt S k e).Perm (e :: S) := by
  unfold insAt
  rw [List.append_assoc, List.singleton_append]
  refine List.perm_middle.trans ?_
  rw [List.take_append_drop]
theorem insAt_strict {S : List Edg} {k : Nat} {e : Edg} (hS : Strict S) (h1 : ∀ x ∈ S.take k, cmpE x e < 0) (h2 : ∀ x, S[k]? = some x → ¬ cmpE x e < 0) (hn : e ∉ S) : Strict (insAt S k e) := by
  unfold insAt Strict
  rw [List.append_assoc, List.singleton_append, List.pairwise_append, List.pairwise_cons]
  have hS' := hS
  unfold Strict at hS'
  rw [← List.take_append_drop k S, List.pairwise_append] at hS'
  obtain ⟨g1, g2, g3⟩ := hS'
  have hhead : ∀ y ∈ S.drop k, cmpE e y < 0 := by
    intro y hy
    rcases hd : S.drop k with _ | ⟨x, l⟩
    · rw [hd] at hy; cases hy
    · have hx : S[k]? = some x := by
        have := congrArg List.head? hd
        simpa using this
      have hxs : x ∈ S := List.mem_of_getElem? hx
      have hex : cmpE e x < 0 := by
        rcases cmpE_tri e x with h | h | h
        · exact h
        · exact absurd (h ▸ hxs) hn
        · exact absurd h (h2 x hx)
      rw [hd] at hy g2
      rcases List.mem_cons.1 hy with h | h
      · exact h ▸ hex
      · exact cmpE_trans hex ((List.pairwise_cons.1 g2).1 y h)
  refine ⟨g1, ⟨hhead, g2⟩, ?_⟩
  intro a ha b hb
  rcases List.mem_cons.1 hb with h | h
  · exact h ▸ h1 a ha
  · exact g3 a ha b h

/-! ### an edge's number -/
def idE (E : List Edg) (e : Edg) : Int := match E.findIdx? (fun x => decide (x = e)) with
  | some i => (i : Int)
  | none => -1
theorem idE_at {E : List Edg} {e : Edg} {i : Nat} (h : E[i]? = some e) (hn : ∀ x ∈ E.take i, x ≠ e) : idE E e = i := by
  unfold idE
  have : E.findIdx? (fun x => decide (x = e)) = some i := by
    rw [List.findIdx?_eq_some_iff_getElem]
    obtain ⟨h1, h2⟩ := List.getElem?_eq_some_iff.1 h
    refine ⟨h1, by simp [h2], fun j hj => ?_⟩
    have := hn E[j] (List.mem_take_iff_getElem.2 ⟨j, by omega, rfl⟩)
    simp [this]
  rw [this]
theorem idE_none {E : List Edg} {e : Edg} (h : e ∉ E) : idE E e = -1 := by
  unfold idE
  have : E.findIdx? (fun x => decide (x = e)) = none := by
    rw [List.findIdx?_eq_none_iff]
    intro x hx
    have : x ≠ e := fun h' => h (h' ▸ hx)
    simp [this]
  rw [this]
theorem idE_nonneg {E : List Edg} {e : Edg} : 0 ≤ idE E e ↔ e ∈ E := by
  constructor
  · intro h
    refine Classical.byContradiction fun hn => ?_
    rw [idE_none hn] at h; omega
  · intro h
    unfold idE
    split
    · omega
    · rename_i hn
      rw [List.findIdx?_eq_none_iff] at hn
      have := hn e h
      simp at this
/-! ### the reference's way: edges put in one by one -/
structure Part (edges : List Edg) (i : Nat) (S : List Edg) : Prop where
  strict : Strict S
  perm : S.Perm ((edges.take i).map turn)
theorem Part.zero (edges : List Edg) : Part edges 0 [] := ⟨List.Pairwise.nil, by simp⟩
theorem Part.next {edges S : List Edg} {i k : Nat} {e : Edg} (h : Part edges i S) (he : edges[i]? = some e) (hn : turn e ∉ S) (h1 : ∀ x ∈ S.take k, cmpE x (turn e) < 0) (h2 : ∀ x, S[k]? = some x → ¬ cmpE x (turn e) < 0) : Part edges (i + 1) (insAt S k (turn e)) := by
  refine ⟨insAt_strict h.strict h1 h2 hn, (insAt_perm _ _ _).trans ?_⟩
  rw [take_snoc he, List.map_append]
  simp only [List.map_cons, List.map_nil]
  exact (List.Perm.cons _ h.perm).trans (List.perm_append_comm (l₁ := [turn e]))
theorem Part.mem {edges S : List Edg} {i : Nat} (h : Part edges i S) (e : Edg) : e ∈ S ↔ e ∈ (edges.take i).map turn := h.perm.mem_iff
theorem Part.all {edges S : List Edg} {i : Nat} (h : Part edges i S) (hi : edges.length ≤ i) : S = canon edges := by
  have hp := h.perm
  rw [List.take_of_length_le hi] at hp
  exact canon_eq (hp.nodup_iff.1 h.strict.nodup) hp h.strict.le

/-! ### rising lists -/
theorem rise_eq : ∀ {l1 l2 : List Int}, l1.Pairwise (· < ·) → l2.Pairwise (· < ·) → (∀ x, x ∈ l1 ↔ x ∈ l2) → l1 = l2
  | [], [], _, _, _ => rfl
  | [], y :: l2, _, _, h => absurd ((h y).2 (by simp)) (by simp)
  | x :: l1, [], _, _, h => absurd ((h x).1 (by simp)) (by simp)
  | x :: l1, y :: l2, h1, h2, h => by
    have g1 := List.pairwise_cons.1 h1
    have g2 := List.pairwise_cons.1 h2
    have hxy : x = y := by
      rcases List.mem_cons.1 ((h x).1 (by simp)) with e | e
      · exact e
      · rcases List.mem_cons.1 ((h y).2 (by simp)) with e' | e'
        · exact e'.symm
        · have := g2.1 x e; have := g1.1 y e'; omega
    subst hxy
    rw [rise_eq g1.2 g2.2 fun z => ?_]
    constructor
    · intro hz
      rcases List.mem_cons.1 ((h z).1 (by simp [hz])) with e | e
      · have := g1.1 z hz; omega
      · exact e
    · intro hz
      rcases List.mem_cons.1 ((h z).2 (by simp [hz])) with e | e
      · have := g2.1 z hz; omega
      · exact e
theorem mem_lessOf {E : List Edg} {v : Nat} {u : Int} : u ∈ lessOf E v ↔ ⟨u, v⟩ ∈ E := by
  simp only [lessOf, List.mem_map, List.mem_filter, decide_eq_true_eq]
  constructor
  · rintro ⟨e, ⟨he, hb⟩, rfl⟩; rw [← hb]; exact he
  · intro h; exact ⟨_, ⟨h, rfl⟩, rfl⟩
theorem mem_moreOf {E : List Edg} {v : Nat} {u : Int} : u ∈ moreOf E v ↔ ⟨v, u⟩ ∈ E := by
  simp only [moreOf, List.mem_map, List.mem_filter, decide_eq_true_eq]
  constructor
  · rintro ⟨e, ⟨he, hb⟩, rfl⟩; rw [← hb]; exact he
  · intro h; exact ⟨_, ⟨h, rfl⟩, rfl⟩
theorem mem_near {G : Gr} (h : G.Ok) {v : Nat} {u : Int} : u ∈ nearOf G.edges v ↔ 0 ≤ u ∧ u < G.labels.length ∧ turn ⟨u, v⟩ ∈ G.edges := by
  unfold nearOf
  rw [List.mem_append, mem_lessOf, mem_moreOf]
  constructor
  · rintro (h1 | h1)
    · have := h.edge _ h1
      simp only at this
      refine ⟨by omega, by omega, ?_⟩
      rw [turn_le (by simp only; omega)]; exact h1
    · have := h.edge _ h1
      simp only at this
      refine ⟨by omega, by omega, ?_⟩
      rw [turn_sym, turn_le (by simp only; omega)]; exact h1
  · rintro ⟨h0, h1, h2⟩
    by_cases hl : u ≤ (v : Int)
    · rw [turn_le (by simpa using hl)] at h2; exact .inl h2
    · rw [turn_sym, turn_le (by simp only; omega)] at h2; exact .inr h2
/-- the numbers of the edges at a vertex, rising -/
def atD (E : List Edg) (v : Nat) : List Int := (E.zipIdx.filter fun p => decide (p.1.a = (v : Int) ∨ p.1.b = (v : Int))).map fun p => (p.2 : Int)
theorem zipIdx_rise (E : List Edg) (p : Edg × Nat → Bool) : ((E.zipIdx.filter p).map fun q => (q.2 : Int)).Pairwise (· < ·) := by
  have key : ∀ (E : List Edg) (k : Nat), ((E.zipIdx k).filter p).Pairwise (fun x y => x.2 < y.2) ∧ ∀ x ∈ E.zipIdx k, k ≤ x.2 := by
    intro E
    induction E with
    | nil => intro k; simp
    | cons e E ih =>
      intro k
      have := ih (k + 1)
      rw [List.zipIdx_cons]
      refine ⟨?_, ?_⟩
      · rw [List.filter_cons]
        split
        · rw [List.pairwise_cons]
          refine ⟨fun x hx => ?_, this.1⟩
          have := this.2 x (List.mem_filter.1 hx).1
          omega
        · exact this.1
      · intro x hx
        rcases List.mem_cons.1 hx with rfl | hx
        · simp
        · have := this.2 x hx; omega
  rw [List.pairwise_map]
  exact (key E 0).1.imp fun h => by omega
theorem ids_perm {G : Gr} (_h : G.Ok) (v : Nat) : ∀ x, x ∈ idsOf G.edges v ↔ x ∈ atD G.edges v := by
  intro x
  simp only [idsOf, lessIds, moreIds, atD, List.mem_append, List.mem_map, List.mem_filter, decide_eq_true_eq]
  constructor
  · rintro (⟨p, ⟨h1, h2⟩, rfl⟩ | ⟨p, ⟨h1, h2⟩, rfl⟩)
    · exact ⟨p, ⟨h1, .inr h2⟩, rfl⟩
    · exact ⟨p, ⟨h1, .inl h2⟩, rfl⟩
  · rintro ⟨p, ⟨h1, h2 | h2⟩, rfl⟩
    · exact .inr ⟨p, ⟨h1, h2⟩, rfl⟩
    · exact .inl ⟨p, ⟨h1, h2⟩, rfl⟩
theorem ids_rise {G : Gr} (h : G.Ok) (v : Nat) : (idsOf G.edges v).Pairwise (· < ·) := by
  unfold idsOf
  rw [List.pairwise_append]
  refine ⟨zipIdx_rise _ _, zipIdx_rise _ _, ?_⟩
  intro a ha b hb
  simp only [lessIds, moreIds, List.mem_map, List.mem_filter, decide_eq_true_eq] at ha hb
  obtain ⟨⟨x, i⟩, ⟨h1, h2⟩, rfl⟩ := ha
  obtain ⟨⟨y, j⟩, ⟨h3, h4⟩, rfl⟩ := hb
  simp only at h2 h4 ⊢
  have hx := List.mem_zipIdx_iff_getElem?.1 h1
  have hy := List.mem_zipIdx_iff_getElem?.1 h3
  simp only at hx hy
  have ex := h.edge x (List.mem_of_getElem? hx)
  have ey := h.edge y (List.mem_of_getElem? hy)
  rcases Nat.lt_trichotomy i j with hij | hij | hij
  · omega
  · subst hij; rw [hx] at hy; cases hy; omega
  · obtain ⟨hi, ei⟩ := List.getElem?_eq_some_iff.1 hx
    obtain ⟨hj, ej⟩ := List.getElem?_eq_some_iff.1 hy
    have := List.pairwise_iff_getElem.1 h.sorted j i hj hi hij
    rw [ei, ej, cmpE_lt] at this
    omega
theorem ids_doc {G : Gr} (h : G.Ok) (v : Nat) : idsOf G.edges v = atD G.edges v := rise_eq (ids_rise h v) (zipIdx_rise _ _) (ids_perm h v)
end Go.Gr
end
