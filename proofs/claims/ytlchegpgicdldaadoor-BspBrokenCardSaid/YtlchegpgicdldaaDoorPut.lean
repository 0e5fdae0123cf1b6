/- A map as a list of pairs: plain laws of 'get' and 'put'. -/
import Derived.Test.YtlchegpgicdldaaDoorMap
namespace Go.Reg
open Go

section
variable {K V : Type} [DecidableEq K]
theorem get_nil (k : K) : get ([] : List (K × V)) k = none := rfl
theorem get_cons (p : K × V) (l : List (K × V)) (k : K) : get (p :: l) k = if p.1 = k then some p.2 else get l k := by
  by_cases h : p.1 = k <;> simp [get, h]
theorem put_nil (k : K) (v : V) : put [] k v = [(k, v)] := rfl
theorem put_cons (p : K × V) (l : List (K × V)) (k : K) (v : V) : put (p :: l) k v = if p.1 = k then (k, v) :: l else p :: put l k v := by
  unfold put
  rw [List.map_cons, List.findIdx?_cons]
  by_cases h : p.1 = k
  · simp [h]
  · simp only [beq_iff_eq, h, if_false]
    cases (l.map (·.1)).findIdx? (· == k) <;> simp
theorem get_put (l : List (K × V)) (k k' : K) (v : V) : get (put l k v) k' = if k = k' then some v else get l k' := by
  induction l with
  | nil => simp [put_nil, get_cons, get_nil]
  | cons p l ih =>
    rw [put_cons]
    by_cases h : p.1 = k
    · rw [if_pos h, get_cons, get_cons]
      by_cases hk : k = k' <;> simp [h, hk]
    · rw [if_neg h, get_cons, get_cons, ih]
      by_cases hk : k = k'
      · subst hk; simp [h]
      · simp [hk]
theorem put_length (l : List (K × V)) (k : K) (v : V) : (put l k v).length = if (get l k).isSome then l.length else l.length + 1 := by
  induction l with
  | nil => simp [put_nil, get_nil]
  | cons p l ih =>
    rw [put_cons, get_cons]
    by_cases h : p.1 = k
    · simp [h]
    · rw [if_neg h, if_neg h, List.length_cons, ih]
      split <;> simp
theorem put_length_le (l : List (K × V)) (k : K) (v : V) : (put l k v).length ≤ l.length + 1 := by
  rw [put_length]; split <;> omega
theorem put_same (l : List (K × V)) (k : K) (v : V) (h : get l k = some v) : put l k v = l := by
  induction l with
  | nil => simp [get_nil] at h
  | cons p l ih =>
    rw [put_cons]
    rw [get_cons] at h
    by_cases hp : p.1 = k
    · rw [if_pos hp] at h ⊢
      obtain ⟨a, b⟩ := p
      simp at hp h
      rw [hp, h]
    · rw [if_neg hp] at h ⊢
      rw [ih h]
theorem put_new (l : List (K × V)) (k : K) (v : V) (h : get l k = none) : put l k v = l ++ [(k, v)] := by
  induction l with
  | nil => rfl
  | cons p l ih =>
    rw [put_cons]
    rw [get_cons] at h
    by_cases hp : p.1 = k
    · rw [if_pos hp] at h; cases h
    · rw [if_neg hp] at h ⊢
      rw [ih h]; rfl
theorem mem_of_get {l : List (K × V)} {k : K} {v : V} (h : get l k = some v) : (k, v) ∈ l := by
  induction l with
  | nil => simp [get_nil] at h
  | cons p l ih =>
    rw [get_cons] at h
    by_cases hp : p.1 = k
    · rw [if_pos hp] at h
      obtain ⟨a, b⟩ := p
      simp at hp h
      simp [hp, h]
    · rw [if_neg hp] at h
      exact List.mem_cons_of_mem _ (ih h)
theorem get_of_mem {l : List (K × V)} (hn : (l.map (·.1)).Nodup) {k : K} {v : V} (h : (k, v) ∈ l) : get l k = some v := by
  induction l with
  | nil => simp at h
  | cons p l ih =>
    rw [get_cons]
    simp only [List.map_cons, List.nodup_cons] at hn
    rcases List.mem_cons.1 h with h | h
    · simp [← h]
    · have : p.1 ≠ k := fun e => hn.1 (by rw [e]; exact List.mem_map.2 ⟨(k, v), h, rfl⟩)
      rw [if_neg this]
      exact ih hn.2 h
theorem get_none_iff {l : List (K × V)} {k : K} : get l k = none ↔ k ∉ l.map (·.1) := by
  induction l with
  | nil => simp [get_nil]
  | cons p l ih =>
    rw [get_cons]
    by_cases hp : p.1 = k
    · simp [hp]
    · rw [if_neg hp, ih]
      simp [Ne.symm hp]
end
end Go.Reg
