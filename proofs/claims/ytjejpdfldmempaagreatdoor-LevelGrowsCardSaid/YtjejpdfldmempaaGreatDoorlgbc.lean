/- Merged: Vof. -/
import Derived.Test.YtjejpdfldmempaaGreatDoorOen
import Derived.Test.YtjejpdfldmempaaGreatDoorlgas
section
namespace Go.Proofs.YtjejpdfldmempaaGreatDoor
open Go.Sx Go.RowKit Go.Reg Go.Gr
set_option maxRecDepth 100000
theorem add_spec {s : List Int} {n : Int} {k : Nat} (hs : s.Pairwise (· < ·)) (h1 : ∀ y ∈ s.take k, y < n) (h2 : ∀ y ∈ s.drop k, n < y) :
  ((s.take k ++ [n]) ++ s.drop k).Pairwise (· < ·) ∧ (∀ x, x ∈ (s.take k ++ [n]) ++ s.drop k ↔ x = n ∨ x ∈ s) ∧ ((s.take k ++ [n]) ++ s.drop k).length ≤ s.length + 1 := by
 refine ⟨?_, fun x => ?_, ?_⟩
 ·rw [List.pairwise_append, List.pairwise_append]
  refine ⟨⟨hs.sublist (List.take_sublist _ _), by simp, fun a ha b hb => ?_⟩, hs.sublist (List.drop_sublist _ _), fun a ha b hb => ?_⟩
  ·rw [List.mem_singleton] at hb; subst hb; exact h1 a ha
  ·have := h2 b hb
   rcases List.mem_append.1 ha with ha | ha
   ·have := h1 a ha; omega
   ·rw [List.mem_singleton] at ha; omega
 ·have : x ∈ s ↔ x ∈ s.take k ∨ x ∈ s.drop k := by rw [← List.mem_append, List.take_append_drop]
  rw [this]
  simp only [List.mem_append, List.mem_singleton]
  constructor
  ·rintro ((h | h) | h)
   ·exact .inr (.inl h)
   ·exact .inl h
   ·exact .inr (.inr h)
  ·rintro (h | h | h)
   ·exact .inl (.inr h)
   ·exact .inl (.inl h)
   ·exact .inr h
 ·simp only [List.length_append, List.length_take, List.length_drop, List.length_singleton]; omega
def pl_r6a : List (Nat × Plan) := []
def G_r6a : List FuncId := [86]
theorem cok_r6a : codeOk Tryz.prog G_r6a pl_r6a (Tryz.f77.body.getD .skip) = true := by kernel_rfl
theorem run_r6a (vs : Array Value) (w : World) : (callFunc 77 vs).run C1.P w = .ok (.enter 77 vs) w := by kernel_rfl
theorem add06_pure (s : List Int) (n : Int) (hs : s.Pairwise (· < ·)) (hl : s.length ≤ 4294967295) : Pure C1 77 [dIs s, .int .i64 n] (fun y => ∃ t : List Int, y = dIs t ∧ t.Pairwise (· < ·) ∧ (∀ x, x ∈ t ↔ x = n ∨ x ∈ s) ∧ t.length ≤ s.length + 1) := by
 have hsl : (s.map dI).length = s.length := List.length_map _
 have hh := has06_pure s n
 refine pure_of c1_ok (pl := pl_r6a) (G := G_r6a) Tryz.func77 rfl Tryz.ntmps77 run_r6a cok_r6a (by simp) ?_
 by_cases hn : n ∈ s
 ·rw [decide_eq_true hn] at hh
  (conv => whnf)
  (repeat' ((first | refine ord_ok ?_ ?_ | refine call_eq rfl hh ?_ | refine ify ?_ | refine ifn ?_ | refine i6 ?_ | refine ati ?_ | refine mst ?_ | refine rmd ?_ | refine ibo (fun _ => ?_) (fun _ => ?_) | exact oend) <;> conv => whnf))
  exact ⟨s, rfl, hs, fun x => ⟨.inr, fun h => h.elim (fun e => e ▸ hn) id⟩, by omega⟩
 ·rw [decide_eq_false hn] at hh
  (conv => whnf)
  (repeat' ((first | refine ord_ok ?_ ?_ | refine call_eq rfl hh ?_ | refine ify ?_ | refine ifn ?_ | refine i6 ?_ | refine ati ?_ | refine mst ?_ | refine rmd ?_ | refine ibo (fun _ => ?_) (fun _ => ?_) | exact oend) <;> conv => whnf))
  refine loop_lo (ι := Nat) (fun k => k ≤ s.length ∧ ∀ y ∈ s.take k, y < n) (fun k => [(5, .d (.int .i64 k)), (1, .d (.int .i64 n)), (0, .d (dIs s))]) (fun _ => []) (fun k => s.length - k) 0 (fun _ => rfl) ⟨Nat.zero_le _, by simp⟩ (.refl _ _) ⟨rfl, rfl, rfl, trivial⟩ trivial ?_
  rintro k ⟨hk, hlo⟩
  refine sxCode_sound c1_ok (G := G_r6a) (pl := pl_r6a) _ _ _ _ (by kernel_rfl) ?_
  have hfin : ((s.map dI).take k ++ [.int .i64 n]) ++ (s.map dI).drop k = ((s.take k ++ [n]) ++ s.drop k).map dI := by
   rw [List.map_append, List.map_append, List.map_take, List.map_drop]; rfl
  by_cases hlt : k < s.length
  ·have hx := List.getElem?_eq_getElem hlt
   have hxm := List.getElem_mem hlt
   have hge : ∀ y ∈ s.drop k, s[k] ≤ y := by
    intro y hy
    obtain ⟨j, hj, rfl⟩ := List.mem_drop_iff_getElem.1 hy
    rcases Nat.eq_zero_or_pos j with e | e
    ·subst e; simp
    ·have := List.pairwise_iff_getElem.1 hs k (k + j) hlt (by omega) (by omega); omega
   generalize s[k] = x at hx hxm hge
   have hxd : (s.map dI)[k]? = some (.int .i64 x) := by rw [List.getElem?_map, hx]; rfl
   by_cases hxn : x < n
   ·(conv => whnf)
    (repeat' ((first | refine ord_ok ?_ ?_ | refine at_da hxd rfl ?_ | refine ify ?_ | refine ifn ?_ | refine i6 ?_ | refine ati ?_ | refine mst ?_ | refine rmd ?_ | refine ibo (fun _ => ?_) (fun _ => ?_) | exact oend) <;> conv => whnf))
    refine ⟨k + 1, _, _, ⟨hlt, ?_⟩, .refl _ _, ⟨rfl, rfl, rfl, trivial⟩, trivial, by omega⟩
    intro y hy
    rw [List.take_add_one, hx] at hy
    rcases List.mem_append.1 hy with hy | hy
    ·exact hlo y hy
    ·simp at hy; subst hy; exact hxn
   ·have hne : x ≠ n := fun e => hn (e ▸ hxm)
    obtain ⟨g1, g2, g3⟩ := add_spec hs hlo (fun y hy => by have := hge y hy; omega)
    (conv => whnf)
    (repeat' ((first | refine ord_ok ?_ ?_ | refine at_da hxd rfl ?_ | refine sl_is k rfl (by omega) ?_ | refine hi_is rfl (show k ≤ (s.map dI).length by omega) ?_ | refine ify ?_ | refine ifn ?_ | refine i6 ?_ | refine ati ?_ | refine mst ?_ | refine rmd ?_ | refine ibo (fun _ => ?_) (fun _ => ?_) | exact oend) <;> conv => whnf))
    exact ⟨_, congrArg (Da.list 1) hfin, g1, g2, g3⟩
  ·have hke : k = s.length := by omega
   obtain ⟨g1, g2, g3⟩ := add_spec hs hlo (fun y hy => by rw [hke, List.drop_length] at hy; cases hy)
   (conv => whnf)
   (repeat' ((first | refine ord_ok ?_ ?_ | refine sl_is k rfl (by omega) ?_ | refine hi_is rfl (show k ≤ (s.map dI).length by omega) ?_ | refine ify ?_ | refine ifn ?_ | refine i6 ?_ | refine ati ?_ | refine mst ?_ | refine rmd ?_ | refine ibo (fun _ => ?_) (fun _ => ?_) | exact oend) <;> conv => whnf))
   exact ⟨_, congrArg (Da.list 1) hfin, g1, g2, g3⟩
def pl_r6o : List (Nat × Plan) := []
def G_r6o : List FuncId := [77]
theorem cok_r6o : codeOk Tryz.prog G_r6o pl_r6o (Tryz.f29.body.getD .skip) = true := by kernel_rfl
theorem run_r6o (vs : Array Value) (w : World) : (callFunc 29 vs).run C1.P w = .ok (.enter 29 vs) w := by kernel_rfl
theorem of06_pure (l : List Int) (hl : l.length ≤ 1000000) : Pure C1 29 [dIs l] (fun y => y = dIs (setOf l)) := by
 have hll : (l.map dI).length = l.length := List.length_map _
 refine pure_of c1_ok (pl := pl_r6o) (G := G_r6o) Tryz.func29 rfl Tryz.ntmps29 run_r6o cok_r6o (by simp) ?_
 ((conv => whnf); repeat' ((first | refine odw ?_ | refine ify ?_ | refine ifn ?_ | refine i6 ?_ | refine ati ?_ | refine mst ?_ | refine rmd ?_ | refine ibo (fun _ => ?_) (fun _ => ?_)) <;> conv => whnf))
 refine loop_lo (ι := Nat × List Int) (fun x => (x.1 ≤ l.length ∧ x.2.length ≤ x.1) ∧ x.2.Pairwise (· < ·) ∧ ∀ y, y ∈ x.2 ↔ y ∈ l.take x.1) (fun x => [(4, .d (.int .i64 (x.1 : Nat))), (3, .d (dIs x.2)), (0, .d (dIs l))]) (fun _ => []) (fun x => l.length - x.1) (0, []) (fun _ => rfl)
  ⟨⟨Nat.zero_le _, Nat.le_refl _⟩, List.Pairwise.nil, by simp⟩ (.lax 3 rfl (.nils 1) (.refl _ _)) ⟨rfl, rfl, rfl, trivial⟩ trivial ?_
 rintro ⟨i, s⟩ ⟨⟨hi, hsl⟩, hr, hm⟩
 dsimp only at hi hsl hr hm
 refine sxCode_sound c1_ok (G := G_r6o) (pl := pl_r6o) _ _ _ _ (by kernel_rfl) ?_
 by_cases hlt : i < l.length
 ·have hx := List.getElem?_eq_getElem hlt
  generalize l[i] = x at hx
  have hxd : (l.map dI)[i]? = some (.int .i64 x) := by rw [List.getElem?_map, hx]; rfl
  (conv => whnf)
  (repeat' ((first | refine ord_ok ?_ ?_ | refine at_da hxd rfl ?_ | refine ify ?_ | refine ifn ?_ | refine i6 ?_ | refine ati ?_ | refine mst ?_ | refine rmd ?_ | refine ibo (fun _ => ?_) (fun _ => ?_) | exact oend) <;> conv => whnf))
  refine call_pure rfl (add06_pure s x hr (by omega)) ?_
  rintro y ⟨t, rfl, h1, h2, h3⟩
  ((conv => whnf); repeat' ((first | refine odw ?_ | refine ify ?_ | refine ifn ?_ | refine i6 ?_ | refine ati ?_ | refine mst ?_ | refine rmd ?_ | refine ibo (fun _ => ?_) (fun _ => ?_)) <;> conv => whnf))
  refine ⟨(i + 1, t), _, _, ⟨⟨hlt, by dsimp only; omega⟩, h1, fun y => ?_⟩, .refl _ _, ⟨rfl, rfl, rfl, trivial⟩, trivial, by dsimp only; omega⟩
  dsimp only
  rw [h2, hm, List.take_add_one, hx, Option.toList_some, List.mem_append, List.mem_singleton]
  exact or_comm
 ·have hii : l.take i = l := List.take_of_length_le (by omega)
  rw [hii] at hm
  have he : s = setOf l := rise_eq hr (setOf_spec l).1 fun x => by rw [hm, (setOf_spec l).2]
  ((conv => whnf); repeat' ((first | refine odw ?_ | refine ify ?_ | refine ifn ?_ | refine i6 ?_ | refine ati ?_ | refine mst ?_ | refine rmd ?_ | refine ibo (fun _ => ?_) (fun _ => ?_)) <;> conv => whnf))
  rw [he]
  exact rfl
end Go.Proofs.YtjejpdfldmempaaGreatDoor
end
