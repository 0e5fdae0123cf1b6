/- Graphs: plain laws: which graphs there are. -/
import Derived.Test.YtfkkfaociofkjaaGra
namespace Go.Gr

structure Gr where
  labels : List Int
  edges : List Edg
structure Gr.Ok (G : Gr) : Prop where
  size : G.labels.length ≤ 4096
  esize : G.edges.length ≤ 16384
  lab : ∀ l ∈ G.labels, 0 ≤ l ∧ l ≤ 255
  edge : ∀ e ∈ G.edges, 0 ≤ e.a ∧ e.a < e.b ∧ e.b < G.labels.length
  sorted : Strict G.edges

def badLabel (l : Int) : Bool := decide (l < 0) || decide (255 < l)
/-- an edge's fault behind others; 0: it has none -/
def ecode (n : Nat) (seen : List Edg) (e : Edg) : Int :=
  if min e.a e.b < 0 ∨ (n : Int) ≤ max e.a e.b then 3 else if e.a = e.b then 1 else if turn e ∈ seen then 4 else 0
def ecodeAt (n : Nat) (edges : List Edg) (i : Nat) : Int := match edges[i]? with
  | some e => ecode n ((edges.take i).map turn) e
  | none => 0
/-- the first fault: its code, its place, is it an edge's? -/
def newErr (labels : List Int) (edges : List Edg) : Option (Int × Int × Bool) :=
  if 4096 < labels.length ∨ 16384 < edges.length then some (6, 0, false)
  else match labels.findIdx? badLabel with
    | some v => some (3, (v : Int), false)
    | none => match (List.range edges.length).find? (fun i => decide (ecodeAt labels.length edges i ≠ 0)) with
      | some i => some (ecodeAt labels.length edges i, (i : Int), true)
      | none => none
theorem newErr_large {labels : List Int} {edges : List Edg} (h : 4096 < labels.length ∨ 16384 < edges.length) : newErr labels edges = some (6, 0, false) := by
  unfold newErr; rw [if_pos h]
theorem newErr_label {labels : List Int} {edges : List Edg} (h : ¬ (4096 < labels.length ∨ 16384 < edges.length)) {v : Nat} {l : Int} (hv : labels[v]? = some l) (hb : badLabel l = true) (hn : ∀ x ∈ labels.take v, badLabel x = false) : newErr labels edges = some (3, (v : Int), false) := by
  unfold newErr
  rw [if_neg h]
  have : labels.findIdx? badLabel = some v := by
    rw [List.findIdx?_eq_some_iff_getElem]
    obtain ⟨h1, h2⟩ := List.getElem?_eq_some_iff.1 hv
    refine ⟨h1, by rw [h2]; exact hb, fun j hj => ?_⟩
    have := hn labels[j] (List.mem_take_iff_getElem.2 ⟨j, by omega, rfl⟩)
    simpa using this
  rw [this]
theorem newErr_edge {labels : List Int} {edges : List Edg} (h : ¬ (4096 < labels.length ∨ 16384 < edges.length)) (hl : ∀ x ∈ labels, badLabel x = false) {i : Nat} (hi : i < edges.length) (hb : ecodeAt labels.length edges i ≠ 0) (hn : ∀ j, j < i → ecodeAt labels.length edges j = 0) : newErr labels edges = some (ecodeAt labels.length edges i, (i : Int), true) := by
  unfold newErr
  rw [if_neg h]
  have h1 : labels.findIdx? badLabel = none := by
    rw [List.findIdx?_eq_none_iff]; exact hl
  have h2 : (List.range edges.length).find? (fun i => decide (ecodeAt labels.length edges i ≠ 0)) = some i := by
    rw [List.find?_range_eq_some]
    refine ⟨by simpa using hb, by simpa using hi, fun j hj => by simpa using hn j hj⟩
  rw [h1, h2]
theorem newErr_none {labels : List Int} {edges : List Edg} (h : ¬ (4096 < labels.length ∨ 16384 < edges.length)) (hl : ∀ x ∈ labels, badLabel x = false) (hn : ∀ j, j < edges.length → ecodeAt labels.length edges j = 0) : newErr labels edges = none := by
  unfold newErr
  rw [if_neg h]
  have h1 : labels.findIdx? badLabel = none := by
    rw [List.findIdx?_eq_none_iff]; exact hl
  have h2 : (List.range edges.length).find? (fun i => decide (ecodeAt labels.length edges i ≠ 0)) = none := by
    rw [List.find?_range_eq_none]
    intro j hj
    simpa using hn j hj
  rw [h1, h2]
/-- no edge is faulty: then they are edges, each once -/
theorem edges_ok {n : Nat} {edges : List Edg} (hn : ∀ j, j < edges.length → ecodeAt n edges j = 0) : (edges.map turn).Nodup ∧ ∀ e ∈ edges.map turn, 0 ≤ e.a ∧ e.a < e.b ∧ e.b < n := by
  have key : ∀ k, k ≤ edges.length → ((edges.take k).map turn).Nodup ∧ ∀ e ∈ (edges.take k).map turn, 0 ≤ e.a ∧ e.a < e.b ∧ e.b < n := by
    intro k
    induction k with
    | zero => intro _; simp
    | succ k ih =>
      intro hk
      obtain ⟨h1, h2⟩ := ih (by omega)
      have he : edges[k]? = some edges[k] := List.getElem?_eq_getElem (by omega)
      generalize edges[k] = e at he
      have hc := hn k (by omega)
      unfold ecodeAt at hc
      rw [he] at hc
      simp only [ecode] at hc
      split at hc
      · omega
      · split at hc
        · omega
        · split at hc
          · omega
          · rename_i g1 g2 g3
            rw [List.take_add_one, he]
            simp only [Option.toList, List.map_append, List.map_cons, List.map_nil]
            refine ⟨?_, ?_⟩
            · rw [List.nodup_append]
              exact ⟨h1, by simp, fun a ha b hb e' => by simp at hb; subst hb; subst e'; exact g3 ha⟩
            · intro x hx
              rcases List.mem_append.1 hx with hx | hx
              · exact h2 x hx
              · simp at hx
                subst hx
                simp only [turn]
                omega
  have := key edges.length (Nat.le_refl _)
  rwa [List.take_length] at this
theorem newErr_ok {labels : List Int} {edges : List Edg} (h : newErr labels edges = none) : labels.length ≤ 4096 ∧ edges.length ≤ 16384 ∧ (∀ x ∈ labels, badLabel x = false) ∧ (edges.map turn).Nodup ∧ ∀ e ∈ edges.map turn, 0 ≤ e.a ∧ e.a < e.b ∧ e.b < labels.length := by
  unfold newErr at h
  split at h
  · cases h
  · rename_i h0
    split at h
    · cases h
    · rename_i h1
      split at h
      · cases h
      · rename_i h2
        rw [List.find?_range_eq_none] at h2
        have h3 := edges_ok (n := labels.length) (edges := edges) (fun j hj => by have := h2 j hj; simpa using this)
        exact ⟨by omega, by omega, List.findIdx?_eq_none_iff.1 h1, h3.1, h3.2⟩
/-- the graph of labels and edges that may be -/
theorem graph_of {labels : List Int} {edges E : List Edg} (h : newErr labels edges = none) (hp : E.Perm (edges.map turn)) (hs : E.Pairwise (fun x y => ¬ cmpE y x < 0)) : Gr.Ok ⟨labels, E⟩ := by
  obtain ⟨h1, h2, h3, h4, h5⟩ := newErr_ok h
  refine ⟨h1, by simp only; rw [hp.length_eq]; simpa using h2, fun l hl => ?_, fun e he => h5 e (hp.mem_iff.1 he), strict_of (hp.nodup_iff.2 h4) hs⟩
  have := h3 l hl
  simp [badLabel] at this
  omega
end Go.Gr
