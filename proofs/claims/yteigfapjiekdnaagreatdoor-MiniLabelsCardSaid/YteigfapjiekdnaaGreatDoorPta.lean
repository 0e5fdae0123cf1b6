/- Patterns, plain: which are right. -/
import Derived.Test.YteigfapjiekdnaaGreatDoorGra
namespace Go.Gr
/-- a pattern -/
structure Pt where
  labels : List Int
  edges : List Edg
theorem findSome_at {α : Type} {f : Nat → Option α} {n i : Nat} {y : α} (h : ∀ k, k < i → f k = none) (hi : f i = some y) (hn : i < n) : (List.range n).findSome? f = some y := by
  rw [List.findSome?_eq_some_iff]
  refine ⟨List.range i, i, (List.range (n - i - 1)).map (fun k => i + 1 + k), ?_, hi, fun k hk => h k (List.mem_range.1 hk)⟩
  apply List.ext_getElem?
  intro k
  by_cases h1 : k < n
  · rw [List.getElem?_range h1]
    rcases Nat.lt_trichotomy k i with h2 | h2 | h2
    · rw [List.getElem?_append_left (by simpa using h2), List.getElem?_range h2]
    · subst h2
      rw [List.getElem?_append_right (by simp), List.length_range, Nat.sub_self]; rfl
    · rw [List.getElem?_append_right (by simp; omega), List.length_range]
      obtain ⟨d, hd⟩ : ∃ d, k - i = d + 1 := ⟨k - i - 1, by omega⟩
      rw [hd, List.getElem?_cons_succ, List.getElem?_map, List.getElem?_range (by omega)]
      simp; omega
  · rw [List.getElem?_eq_none (by simp; omega), List.getElem?_eq_none (by simp; omega)]
theorem findSome_no {α : Type} {f : Nat → Option α} {n : Nat} (h : ∀ k, k < n → f k = none) : (List.range n).findSome? f = none := by
  rw [List.findSome?_eq_none_iff]
  exact fun k hk => h k (List.mem_range.1 hk)
/-- the fault of labels -/
def lErr (l : List Int) : Option (Int × Nat) := if 8 < l.length then some (6, 0) else (List.range l.length).findSome? fun i => if badLabel ((l[i]?).getD 0) then some (3, i) else none
/-- the fault of an edge behind another one -/
def eBad (n : Nat) (p : Option Edg) (e : Edg) : Option Int :=
  if ¬ (0 ≤ min e.a e.b ∧ max e.a e.b < n) then some 3 else if e.b ≤ e.a then some 2 else match p with
    | none => none
    | some q => if cmpE q e < 0 then none else some 2
def eAt (n : Nat) (E : List Edg) (i : Nat) : Option (Int × Nat) := match E[i]? with
  | none => none
  | some e => (eBad n (if i = 0 then none else E[i - 1]?) e).map fun c => (c, i)
def eErr (n : Nat) (E : List Edg) : Option (Int × Nat) := (List.range E.length).findSome? (eAt n E)
/-- a pattern's fault: its code, its place -/
def pErr (p : Pt) : Option (Int × Nat) := match lErr p.labels with
  | some x => some x
  | none => eErr p.labels.length p.edges
theorem lErr_none {l : List Int} (h : lErr l = none) : l.length ≤ 8 ∧ ∀ x ∈ l, 0 ≤ x ∧ x ≤ 255 := by
  unfold lErr at h
  split at h
  · cases h
  · refine ⟨by omega, fun x hx => ?_⟩
    obtain ⟨i, hi, rfl⟩ := List.mem_iff_getElem.1 hx
    have := (List.findSome?_eq_none_iff.1 h) i (List.mem_range.2 hi)
    rw [List.getElem?_eq_getElem hi] at this
    simp [badLabel] at this
    omega
theorem eErr_none {n : Nat} {E : List Edg} (h : eErr n E = none) : (∀ e ∈ E, 0 ≤ e.a ∧ e.a < e.b ∧ e.b < n) ∧ ∀ i x y, E[i]? = some x → E[i + 1]? = some y → cmpE x y < 0 := by
  have key : ∀ i e, E[i]? = some e → eBad n (if i = 0 then none else E[i - 1]?) e = none := by
    intro i e hx
    have := (List.findSome?_eq_none_iff.1 h) i (List.mem_range.2 (List.getElem?_eq_some_iff.1 hx).1)
    unfold eAt at this
    rw [hx] at this
    simpa using this
  refine ⟨fun e he => ?_, fun i x y hx hy => ?_⟩
  · obtain ⟨i, hi, rfl⟩ := List.mem_iff_getElem.1 he
    have := key i _ (List.getElem?_eq_getElem hi)
    unfold eBad at this
    split at this
    · cases this
    · split at this
      · cases this
      · omega
  · have := key (i + 1) y hy
    rw [if_neg (by omega), Nat.add_sub_cancel, hx] at this
    unfold eBad at this
    split at this
    · cases this
    · split at this
      · cases this
      · simp only at this
        split at this
        · assumption
        · cases this
end Go.Gr
