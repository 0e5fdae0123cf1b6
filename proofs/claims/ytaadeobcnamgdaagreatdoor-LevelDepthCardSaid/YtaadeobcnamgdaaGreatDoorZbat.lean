/- Merged: Vlg Lng Vli. -/
import Derived.Test.YtaadeobcnamgdaaGreatDoorZbas
import Derived.Test.YtaadeobcnamgdaaGreatDoorZbam
import Derived.Test.YtaadeobcnamgdaaGreatDoorZbao
section
/- vert: plain laws: the list of a set: its vertices, and that it is canonical. · vert: plain laws for VertGrowth: a graph with an edge less; what is beside. -/
namespace Go.Proofs.YtaadeobcnamgdaaGreatDoor
open Go.Gr
theorem findIdx_erase {p : Int → Bool} {l : List Int} {i : Nat} (h : l.findIdx? p = some i) : ∃ (h2 : i < l.length), p l[i] = true ∧ ∀ j (hj : j < i), p (l[j]'(by omega)) = false := by
  rw [List.findIdx?_eq_some_iff_getElem] at h
  obtain ⟨h1, h2, h3⟩ := h
  exact ⟨h1, h2, fun j hj => by have := h3 j hj; simpa using this⟩
theorem nod_inj {l : List Int} (h : l.Nodup) {i j : Nat} (hi : i < l.length) (hj : j < l.length) (e : l[i] = l[j]) : i = j := by
  rcases Nat.lt_trichotomy i j with h1 | h1 | h1
  · exact absurd e (List.pairwise_iff_getElem.1 h i j hi hj h1)
  · exact h1
  · exact absurd e.symm (List.pairwise_iff_getElem.1 h j i hj hi h1)
theorem mem_erase_at {l : List Int} (hn : l.Nodup) {i : Nat} (hi : i < l.length) {x : Int} : x ∈ l.eraseIdx i ↔ x ∈ l ∧ x ≠ l[i] := by
  have e := List.eraseIdx_eq_take_drop_succ l i
  rw [e, List.mem_append, List.mem_take_iff_getElem, List.mem_drop_iff_getElem]
  constructor
  · rintro (⟨j, hj, rfl⟩ | ⟨j, hj, rfl⟩)
    · exact ⟨List.getElem_mem _, fun he => by have := nod_inj hn (by omega) (by omega) he; omega⟩
    · exact ⟨List.getElem_mem _, fun he => by have := nod_inj hn (by omega) (by omega) he; omega⟩
  · rintro ⟨hx, hne⟩
    obtain ⟨j, hj, rfl⟩ := List.mem_iff_getElem.1 hx
    rcases Nat.lt_trichotomy j i with h | h | h
    · exact .inl ⟨j, by omega, rfl⟩
    · subst h; exact absurd rfl hne
    · exact .inr ⟨j - (i + 1), by omega, by congr 1; omega⟩
theorem nextP_iff {E : List Edg} {l : List Int} {v : Int} : nextP E l v = true ↔ l = [] ∨ l.any (besP E v) = true := by
  unfold nextP besV
  rw [Bool.or_eq_true, decide_eq_true_eq, decide_eq_true_eq, idxF_nn]
end Go.Proofs.YtaadeobcnamgdaaGreatDoor

namespace Go.Proofs.YtaadeobcnamgdaaGreatDoor
open Go.Gr
theorem mem_nearI {G : Gr} (h : G.Ok) {v u : Int} : u ∈ nearI G v ↔ (0 ≤ v ∧ v < G.labels.length) ∧ 0 ≤ u ∧ u < G.labels.length ∧ turn ⟨u, v⟩ ∈ G.edges := by
  unfold nearI
  split
  · rename_i hv
    obtain ⟨m, rfl⟩ := Int.eq_ofNat_of_zero_le hv.1
    rw [Int.toNat_natCast, mem_near h]
    exact ⟨fun hh => ⟨hv, hh⟩, fun hh => hh.2⟩
  · rename_i hv
    exact ⟨fun hh => (by cases hh), fun hh => absurd hh.1 hv⟩
end Go.Proofs.YtaadeobcnamgdaaGreatDoor
end

section
/- VertGrowth: the walk. -/
namespace Go.Proofs.YtaadeobcnamgdaaGreatDoor
open Go.Sx Go.RowKit Go.Reg Go.Gr

set_option maxRecDepth 100000
theorem nextV_len {G : Gr} (hG : G.Ok) {a : List Int} (h : a.length ≤ 100000) : (nextV G a).length ≤ 4294967296 := by
  unfold nextV
  split
  · rw [upto_len]; have := hG.size; omega
  · have h1 := List.length_filter_le (fun x => !decide (x ∈ setOf a)) (setOf (a.flatMap (nearI G)))
    have h2 := setOf_len (a.flatMap (nearI G))
    have h3 := nears_len hG a
    omega
end Go.Proofs.YtaadeobcnamgdaaGreatDoor
end
