/- slices.SortFunc at an owned slice: between the shelf's words and 'Sl'. -/
import Derived.Test.YtlchegpgicdldaaDoorSli
import Derived.Shelf.SlSortCmp.WholeK
import Derived.Shelf.SlSortCmp.NoneTotal
namespace Go.Reg
open Go Go.RowKit Go.Sort Go.Proofs

section
variable {α : Type} [Inhabited α] {enc : α → List Value} {E k : Nat} {w : World} {l : List α} {g cap : Nat}

theorem flatK_at (he : ∀ x, (enc x).length = k) (hk : 0 < k) (d : Array α) (t : Nat) (ht : t < d.size * k) : (d.toList.flatMap enc)[t]? = some (flatK enc k d)[t]! := by
  have h1 : t / k < d.size := Nat.div_lt_of_lt_mul (by rwa [Nat.mul_comm] at ht)
  have h2 : t % k < k := Nat.mod_lt _ hk
  have e := flat_at he d.toList (t / k) d[t / k] (t % k) (by simp [h1]) h2
  rw [show t / k * k + t % k = t from Nat.div_add_mod' t k] at e
  rw [e, get_flatK _ _ _ _ ht, getElem!_pos d (t / k) h1]
  have h3 : t % k < (enc d[t / k]).length := by rw [he]; exact h2
  rw [List.getElem?_eq_getElem h3, getElem!_pos (enc d[t / k]) (t % k) h3]

theorem Sl.holdsK (he : ∀ x, (enc x).length = k) (hk : 0 < k) (h : Sl E k enc w (.slice (some ⟨g, 0, none⟩) l.length cap) l) : HoldsK enc k w g 0 l.toArray := by
  intro j hj
  have hj' : j < l.length * k := by simpa using hj
  have hc := World.ownsRow.cells h (g := g) rfl j (flatK enc k l.toArray)[j]! (by have := flatK_at he hk l.toArray j hj'; simpa using this)
  refine ⟨by simpa [Addr.add_lit] using hc, ?_⟩
  rcases h.2 with ⟨h1, _⟩ | ⟨g', cap', cur, h1, _, hg, _⟩
  · cases h1
  · cases h1
    simp [World.frozen?, hg]

theorem Sl.sorted (he : ∀ x, (enc x).length = k) (hk : 0 < k) (h : Sl E k enc w (.slice (some ⟨g, 0, none⟩) l.length cap) l) (d : Array α) (hd : d.size = l.length) (n : Nat) (os : Array Obj) :
    Sl E k enc (sortWorldK enc k w g 0 n d os) (.slice (some ⟨g, 0, none⟩) l.length cap) d.toList ∧ Tch [g] w (sortWorldK enc k w g 0 n d os) := by
  have hlt := h.lt (b := g) rfl
  constructor
  · have hlen : (d.toList.flatMap enc).length = d.toList.length * k := by
      generalize d.toList = xs
      induction xs with
      | nil => simp
      | cons x xs ih => simp [ih, he, Nat.add_mul]; omega
    refine ⟨hlen, ?_⟩
    rcases h.2 with ⟨h1, _⟩ | ⟨g', cap', cur, h1, h0, hg, hc, hm, hs, ht⟩
    · cases h1
    · cases h1
      refine .inr ⟨g, cap, putCells id 0 (flatK enc k d) cur, by simp [hd], Nat.zero_le _, ?_, by simp [hd]; exact hc, hm, by simp [putCells, hs], ?_⟩
      · simp only [sortWorldK, grow, putRowK, putRow, mapBlock, Sort.ahead]
        rw [Array.getElem?_append_left (by simpa using hlt)]
        simp [Array.getElem?_modify, hg, onCells]
      · apply List.ext_getElem?
        intro t
        rw [List.getElem?_take]
        split
        · rename_i hlt'
          have hlt2 : t < d.size * k := by simpa using hlt'
          rw [flatK_at he hk d t hlt2]
          have hcs : t < cur.size := by rw [hs]; rw [hd] at hlt2; exact Nat.lt_of_lt_of_le hlt2 (Nat.mul_le_mul_right k hc)
          simp [putCells, hcs, hlt2]
        · rename_i hge
          rw [List.getElem?_eq_none (by rw [hlen]; omega)]
  · refine ⟨rfl, rfl, rfl, ?_, ?_⟩
    · simp [sortWorldK, grow, putRowK, putRow, mapBlock, Sort.ahead]
    · intro j hj hn
      have hne : g ≠ j := fun e => hn (by simp [e])
      simp only [sortWorldK, grow, putRowK, putRow, mapBlock, Sort.ahead]
      rw [Array.getElem?_append_left (by simpa using hj)]
      simp [Array.getElem?_modify, hne]
end
end Go.Reg
