/- Graphs: plain laws: the order and the way round of edges play no part. -/
import Derived.Test.YtmkbgbnehokmmaaDoorGri
namespace Go.Gr
theorem newErr_none' {labels : List Int} {edges : List Edg} (h1 : labels.length ≤ 4096) (h2 : edges.length ≤ 16384) (hl : ∀ x ∈ labels, badLabel x = false) (hnd : (edges.map turn).Nodup) (hb : ∀ e ∈ edges.map turn, 0 ≤ e.a ∧ e.a < e.b ∧ e.b < labels.length) : newErr labels edges = none := by
  refine newErr_none (by omega) hl fun j hj => ?_
  have hx := List.getElem?_eq_getElem hj
  have hxt := hb (turn edges[j]) (List.mem_map_of_mem (List.getElem_mem hj))
  unfold ecodeAt
  rw [hx]
  simp only
  unfold ecode
  simp only [turn] at hxt
  rw [if_neg (by omega), if_neg (by omega), if_neg ?_]
  intro hm
  obtain ⟨e, he, h3⟩ := List.mem_map.1 hm
  obtain ⟨i, hi, rfl⟩ := List.mem_take_iff_getElem.1 he
  have := List.pairwise_iff_getElem.1 hnd i j (by rw [List.length_map]; omega) (by rw [List.length_map]; exact hj) (by omega)
  simp only [List.getElem_map] at this
  exact this h3
theorem same_edges {labels : List Int} {E F : List Edg} (h : newErr labels E = none) (hp : (F.map turn).Perm (E.map turn)) : newErr labels F = none ∧ canon F = canon E := by
  obtain ⟨h1, h2, h3, h4, h5⟩ := newErr_ok h
  have hl := hp.length_eq
  rw [List.length_map, List.length_map] at hl
  have hnd := hp.nodup_iff.2 h4
  exact ⟨newErr_none' h1 (by omega) h3 hnd fun e he => h5 e (hp.mem_iff.1 he), (canon_eq hnd ((canon_perm E).trans hp.symm) (canon_sorted E)).symm⟩
theorem more_labels {labels : List Int} {E : List Edg} (x : Int) (hx : badLabel x = false) (hn : labels.length ≤ 10) (h : newErr labels E = none) : newErr (labels ++ [x]) E = none := by
  obtain ⟨h1, h2, h3, h4, h5⟩ := newErr_ok h
  refine newErr_none' (by rw [List.length_append, List.length_singleton]; omega) h2 (fun y hy => ?_) h4 fun e he => ?_
  · rcases List.mem_append.1 hy with hy | hy
    · exact h3 y hy
    · rw [List.mem_singleton] at hy; subst hy; exact hx
  · have := h5 e he
    rw [List.length_append, List.length_singleton]; omega
def swap (e : Edg) : Edg := ⟨e.b, e.a⟩
theorem turn_swap (e : Edg) : turn (swap e) = turn e := turn_sym e.b e.a
/-- edges begun at a place, each the other way round -/
def around (E : List Edg) (r : Nat) : List Edg := (E.drop (r % E.length) ++ E.take (r % E.length)).map swap
theorem around_len (E : List Edg) (r : Nat) : (around E r).length = E.length := by
  unfold around
  rw [List.length_map, List.length_append, List.length_drop, List.length_take]; omega
theorem around_perm (E : List Edg) (r : Nat) : ((around E r).map turn).Perm (E.map turn) := by
  unfold around
  rw [List.map_map]
  have : turn ∘ swap = turn := by funext e; exact turn_swap e
  rw [this]
  refine List.Perm.map _ ?_
  have := List.perm_append_comm (l₁ := E.drop (r % E.length)) (l₂ := E.take (r % E.length))
  rwa [List.take_append_drop] at this
theorem around_at {E : List Edg} {r i : Nat} {e : Edg} (hi : i < E.length) (h : E[(i + r) % E.length]? = some e) : (around E r)[i]? = some (swap e) := by
  have hr := Nat.mod_lt r (show 0 < E.length by omega)
  have hm : (i + r) % E.length = (i + r % E.length) % E.length := by rw [Nat.add_mod, Nat.mod_eq_of_lt hi]
  rw [hm] at h
  unfold around
  rw [List.getElem?_map]
  by_cases hc : i < E.length - r % E.length
  · rw [Nat.mod_eq_of_lt (by omega)] at h
    rw [List.getElem?_append_left (by rw [List.length_drop]; exact hc), List.getElem?_drop, Nat.add_comm, h]; rfl
  · have e2 : (i + r % E.length) % E.length = i - (E.length - r % E.length) := by
      rw [Nat.mod_eq_sub_mod (by omega), Nat.mod_eq_of_lt (by omega)]; omega
    rw [e2] at h
    rw [List.getElem?_append_right (by rw [List.length_drop]; omega), List.length_drop, List.getElem?_take, if_pos (by omega), h]; rfl
end Go.Gr
