/- 'for k, v := range m' over a map of pairs that no round changes: whatever order the tape tells. -/
import Derived.Test.YtlchegpgicdldaaDoorMap
import Derived.Maps.RangeRun
namespace Go.Reg
open Go Go.RowKit

section
variable {K V : Type} {P : Program} {encK : K → Value} {encV : V → Value}

def todoOf (es : List MapEntry) (l : List (K × V)) (seen : Array Nat) : List (K × V) := ((es.zip l).filter (fun x => !seen.contains x.1.born)).map (·.2)

theorem perm_pick {α : Type} (g : α → Nat) (f : Nat → Bool) (x : α) : ∀ Z : List α, (Z.map g).Nodup → x ∈ Z → f (g x) = true → (Z.filter (fun y => f (g y))).Perm (x :: Z.filter (fun y => f (g y) && g y != g x))
  | [], _, hx, _ => by simp at hx
  | z :: zs, hn, hx, hf => by
    simp only [List.map_cons, List.nodup_cons] at hn
    by_cases hz : x = z
    · subst hz
      have e : zs.filter (fun y => f (g y) && g y != g x) = zs.filter (fun y => f (g y)) := List.filter_congr fun y hy => by
        have : g y ≠ g x := fun e => hn.1 (by rw [← e]; exact List.mem_map.2 ⟨y, hy, rfl⟩)
        simp [this]
      simp [hf, e]
    · have hx' : x ∈ zs := by simp [hz] at hx; exact hx
      have ih := perm_pick g f x zs hn.2 hx' hf
      have hne : g z ≠ g x := fun e => hn.1 (by rw [e]; exact List.mem_map.2 ⟨x, hx', rfl⟩)
      by_cases h : f (g z) = true
      · simp only [List.filter_cons, h, if_true, Bool.true_and, bne_iff_ne, ne_eq, hne, not_false_eq_true]
        exact (ih.cons z).trans (List.Perm.swap x z _)
      · simp only [List.filter_cons, h, Bool.false_and, Bool.false_eq_true, if_false]
        simpa using ih

def IterAt (encK : K → Value) (encV : V → Value) (w : World) (r b : Nat) (l todo : List (K × V)) : Prop :=
  ∃ (es : Array MapEntry) (clock since : Nat) (seen : Array Nat) (c0 : Nat), w.heap[r]? = some (.mapIter (some b) since seen c0) ∧ w.heap[b]? = some (.map es clock) ∧ Holds encK encV es clock l ∧ since ≤ c0 ∧ since ≤ clock ∧ (∀ x ∈ es.toList, x.born < since) ∧ todo = todoOf es.toList l seen
/-- the loop stands on this pair -/
def OnAt (encK : K → Value) (encV : V → Value) (w : World) (r b : Nat) (l todo : List (K × V)) (p : K × V) : Prop :=
  ∃ (es : Array MapEntry) (clock since : Nat) (seen : Array Nat), ∃ e ∈ es.toList, w.heap[r]? = some (.mapIter (some b) since (seen.push e.born) clock) ∧ w.heap[b]? = some (.map es clock) ∧ Holds encK encV es clock l ∧ since ≤ clock ∧ (∀ x ∈ es.toList, x.born < since) ∧
    todo = todoOf es.toList l (seen.push e.born) ∧ e.key = encK p.1 ∧ e.val = encV p.2

variable {w w' : World} {r b : Nat} {l todo : List (K × V)} {p : K × V} {S : List Nat}
theorem IterAt.keep (h : IterAt encK encV w r b l todo) (t : Tch S w w') (hr : r ∉ S) (hb : b ∉ S) : IterAt encK encV w' r b l todo := by
  obtain ⟨es, clock, since, seen, c0, h1, h2, h3⟩ := h
  exact ⟨es, clock, since, seen, c0, by rw [t.blk r (Array.getElem?_eq_some_iff.1 h1).1 hr]; exact h1, by rw [t.blk b (Array.getElem?_eq_some_iff.1 h2).1 hb]; exact h2, h3⟩
theorem OnAt.keep (h : OnAt encK encV w r b l todo p) (t : Tch S w w') (hr : r ∉ S) (hb : b ∉ S) : OnAt encK encV w' r b l todo p := by
  obtain ⟨es, clock, since, seen, e, he, h1, h2, h3⟩ := h
  exact ⟨es, clock, since, seen, e, he, by rw [t.blk r (Array.getElem?_eq_some_iff.1 h1).1 hr]; exact h1, by rw [t.blk b (Array.getElem?_eq_some_iff.1 h2).1 hb]; exact h2, h3⟩
theorem OnAt.iter (h : OnAt encK encV w r b l todo p) : IterAt encK encV w r b l todo := by
  obtain ⟨es, clock, since, seen, e, he, h1, h2, h3, h4, h5, h6, _⟩ := h
  exact ⟨es, clock, since, _, clock, h1, h2, h3, h4, h4, h5, h6⟩
theorem IterAt.mapAt (h : IterAt encK encV w r b l todo) : MapAt encK encV w b l := by
  obtain ⟨es, clock, since, seen, c0, h1, h2, h3, _⟩ := h
  exact MapAt.holds.2 ⟨es, clock, h2, h3⟩
theorem IterAt.lt (h : IterAt encK encV w r b l todo) : r < w.heap.size := by
  obtain ⟨es, clock, since, seen, c0, h1, _⟩ := h
  exact (Array.getElem?_eq_some_iff.1 h1).1
theorem IterAt.ne (h : IterAt encK encV w r b l todo) : r ≠ b := by
  obtain ⟨es, clock, since, seen, c0, h1, h2, _⟩ := h
  intro e; subst e; rw [h1] at h2; cases h2

theorem born_nodup {es : List MapEntry} (h : es.Pairwise (fun x y => x.born < y.born)) : (es.map (·.born)).Nodup := by
  rw [List.nodup_iff_pairwise_ne, List.pairwise_map]
  exact h.imp (fun h => Nat.ne_of_lt h)

theorem MapAt.range (h : MapAt encK encV w b l) {t kt e : TypeId} (ht : P.underlying t = some (.map kt e)) :
    ∃ w', (Instr.range t (.map (some b))).run P w = .ok (.pointer (some ⟨w.heap.size, 0, none⟩)) w' ∧ IterAt encK encV w' w.heap.size b l l ∧ Tch [] w w' := by
  obtain ⟨es, clock, h2, h3⟩ := MapAt.holds.1 h
  have hlt := h.lt
  refine ⟨_, run_range_map w t kt e b es clock ht h2, ⟨es, clock, clock, #[], clock, (MapKept.heap_alloc w _).1, ((MapKept.heap_alloc w _).2 b hlt).trans h2, h3, Nat.le_refl _, Nat.le_refl _, h3.clock, ?_⟩, Tch.alloc _ _ _⟩
  have : es.toList.length = l.length := by simpa using congrArg List.length h3.keys
  have e2 := List.map_snd_zip (l₁ := es.toList) (l₂ := l) (Nat.le_of_eq this.symm)
  have e3 : (es.toList.zip l).filter (fun _ => true) = es.toList.zip l := List.filter_eq_self.2 (fun _ _ => rfl)
  simp only [todoOf, Array.contains_empty, Bool.not_false, e3]
  exact e2.symm

theorem IterAt.next (h : IterAt encK encV w r b l todo) (ty : TypeId) :
    (todo = [] ∧ (Instr.next (.pointer (some ⟨r, 0, none⟩)) false ty).run P w = .ok (.tuple #[.bool false]) w) ∨
    ∃ p todo' w', todo.Perm (p :: todo') ∧ (Instr.next (.pointer (some ⟨r, 0, none⟩)) false ty).run P w = .ok (.tuple #[.bool true, encK p.1, encV p.2]) w' ∧ OnAt encK encV w' r b l todo' p ∧ Tch [r] w w' := by
  have hne := h.ne
  have hrl := h.lt
  obtain ⟨es, clock, since, seen, c0, h1, h2, h3, h4, h4', h5, rfl⟩ := h
  have hlen : es.toList.length = l.length := by simpa using congrArg List.length h3.keys
  have hfst : (es.toList.zip l).map (·.1) = es.toList := List.map_fst_zip (Nat.le_of_eq hlen)
  have hbn : ((es.toList.zip l).map (fun x => x.1.born)).Nodup := by
    rw [show (es.toList.zip l).map (fun x => x.1.born) = ((es.toList.zip l).map (·.1)).map (·.born) by simp, hfst]
    exact born_nodup h3.born
  rcases run_next_at (P := P) w ty r b since c0 seen es clock h1 h2 h5 h4 with ⟨h0, hr⟩ | ⟨e, he, w1, hw1, hr⟩
  · left
    refine ⟨?_, hr⟩
    have h0' : es.toList.filter (fun e => !seen.contains e.born) = [] := by
      rw [← Array.toList_filter]; exact List.eq_nil_of_length_eq_zero h0
    unfold todoOf
    rw [List.map_eq_nil_iff, List.filter_eq_nil_iff]
    intro x hx
    have hm : x.1 ∈ es.toList := by rw [← hfst]; exact List.mem_map.2 ⟨x, hx, rfl⟩
    exact List.filter_eq_nil_iff.1 h0' x.1 hm
  · right
    have he' : e ∈ es.toList ∧ (!seen.contains e.born) = true := by
      unfold leftOf at he
      rw [Array.toList_filter, List.mem_filter] at he
      exact he
    obtain ⟨i, hi⟩ := List.getElem?_of_mem he'.1
    have hil : i < l.length := by rw [← hlen]; exact (List.getElem?_eq_some_iff.1 hi).1
    have hl : l[i]? = some l[i] := List.getElem?_eq_getElem hil
    have hk : e.key = encK (l[i]).1 := by
      have := congrArg (·[i]?) h3.keys
      simpa [hi, hl] using this
    have hv : e.val = encV (l[i]).2 := by
      have := congrArg (·[i]?) h3.vals
      simpa [hi, hl] using this
    have hz : (e, l[i]) ∈ es.toList.zip l := List.mem_of_getElem? (i := i) (by rw [List.getElem?_zip_eq_some]; exact ⟨hi, hl⟩)
    have hp := perm_pick (fun x : MapEntry × (K × V) => x.1.born) (fun n => !seen.contains n) (e, l[i]) (es.toList.zip l) hbn hz he'.2
    have hw1b : ∀ k : Nat, w1.heap[k]? = w.heap[k]? := by rcases hw1 with rfl | rfl <;> exact fun _ => rfl
    have hsz : w1.heap.size = w.heap.size := by rcases hw1 with rfl | rfl <;> rfl
    refine ⟨l[i], todoOf es.toList l (seen.push e.born), _, ?_, by rw [← hk, ← hv]; exact hr, ⟨es, clock, since, seen, e, he'.1, ?_, ?_, h3, h4', h5, rfl, hk, hv⟩, ?_⟩
    · have := hp.map (·.2)
      unfold todoOf
      refine this.trans (List.Perm.of_eq ?_)
      simp only [List.map_cons]
      congr 2
      refine List.filter_congr fun x _ => ?_
      rw [Array.contains_push, Bool.not_or]
      congr 1
    · simp [ChangeMaps.setBlock, hsz, hrl]
    · simp [ChangeMaps.setBlock, Array.getElem?_setIfInBounds_ne hne, hw1b, h2]
    · have ht : Tch [r] w w1 := by rcases hw1 with rfl | rfl <;> first | exact Tch.refl _ _ | exact Tch.drew _ _
      exact ht.trans0 (tch_obj w1 r _)

theorem OnAt.entry (h : OnAt encK encV w r b l todo p) : (Instr.entry (.pointer (some ⟨r, 0, none⟩))).run P w = .ok (.tuple #[encK p.1, encV p.2]) w := by
  obtain ⟨es, clock, since, seen, e, he, h1, h2, h3, h4, h5, h6, hk, hv⟩ := h
  rw [run_entry_at w r b since seen es clock e h1 h2 he (born_nodup h3.born), hk, hv]
end
end Go.Reg
