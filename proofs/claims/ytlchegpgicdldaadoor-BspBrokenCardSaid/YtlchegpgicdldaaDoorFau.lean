/- Faults, told for the engine: New, Code. -/
import Derived.Test.YtlchegpgicdldaaDoorFal
import Derived.Test.YtlchegpgicdldaaDoorFlt
namespace Go.Proofs.YtlchegpgicdldaaDoor
open Go.Sx Go.RowKit Go.Reg

set_option maxRecDepth 100000
theorem errT_glob {O : List Nat} {w : World} (h : Glob C1 O w) : ErrT w ∧ 0 ∉ O := by
  obtain ⟨cs, h1, h2⟩ := (h _ (List.mem_singleton_self _)).1
  simp only [RepC] at h1
  obtain ⟨b, o, c, rfl, hb, _, rfl, hc⟩ := h1
  simp only [toV, List.headD_cons, Value.pointer.injEq, Option.some.injEq, Addr.mk.injEq, and_true] at h2
  obtain ⟨rfl, rfl⟩ := h2
  exact ⟨hc 0 _ rfl, hb⟩
theorem errT_lt {w : World} (h : ErrT w) : 0 < w.heap.size := by
  unfold ErrT World.cell? at h
  rcases Nat.lt_or_ge 0 w.heap.size with hl | hl
  · exact hl
  · rw [Array.getElem?_eq_none (by omega)] at h; cases h
/-- the variable's block holds one cell -/
def ErrX (w : World) : Prop := ∃ cs t fr, w.heap[0]? = some (.cells cs t fr) ∧ cs.size = 1
theorem glob_errT {w : World} (h : ErrT w) (hx : ErrX w) : Glob C1 [] w := by
  intro g hg
  rw [List.mem_singleton.1 hg]
  refine ⟨⟨[_], ?_, rfl⟩, by simp, hx⟩
  simp only [RepC]
  exact ⟨0, 0, [_], rfl, by simp, errT_lt h, rfl, fun j u hj => by
    cases j with
    | zero => simp at hj; subst hj; exact h
    | succ j => simp at hj⟩

theorem ffault_pure (c a : Int) (s : ByteArray) : Pure C1 31 [dF c a s] (fun y => y = .ref (.agg [.int .i64 c, .int .i64 a, .str s])) := by
  intro O w us hO hg hr
  obtain ⟨v, vs, rfl, h1, h2⟩ := reps_inv hr
  obtain rfl := reps_inv0 h2
  obtain ⟨cs, r, rfl⟩ := h1
  simp only [dF, RepC] at r
  obtain ⟨c2, ⟨b, o, c3, rfl, r1, r2, r3, r4⟩, rfl⟩ := r
  obtain ⟨hE, h0⟩ := errT_glob hg
  refine ⟨by kernel_rfl, (ffault_any b o w hE (by omega)).mono ?_⟩
  rintro e w' ⟨rfl, ht⟩
  refine ⟨_, _, rfl, rfl, ⟨[_], ?_, rfl⟩, ht⟩
  have := RepC.later (Later.same ht O) (.ref (.agg [.int .i64 c, .int .i64 a, .str s])) [.pointer (some ⟨b, o, none⟩)] (by simp only [RepC]; exact ⟨b, o, c3, rfl, r1, r2, r3, r4⟩)
  exact this
theorem code_pure (c a : Int) (s : ByteArray) : Pure C1 13 [dF c a s] (fun y => y = .int .i64 c) := by
  refine pure_of c1_ok (pl := []) (G := []) Tryd.func13 rfl Tryd.ntmps13 (by intro vs w; kernel_rfl) (by kernel_rfl) (by simp) ?_
  ((conv => whnf); repeat' (first | (refine if_yes (by first | omega | rfl | assumption | exact ⟨rfl, rfl⟩ | exact ⟨rfl, rfl, rfl⟩ | exact ⟨rfl, rfl, rfl, rfl⟩) ?_; conv => whnf) | (refine if_no (by first | omega | assumption | exact fun h => h rfl | exact fun h => h (by assumption) | exact fun h => h ⟨rfl, rfl⟩ | exact fun h => h ⟨rfl, rfl, rfl⟩ | exact fun h => h ⟨rfl, rfl, rfl, rfl⟩) ?_; conv => whnf) | (refine i64_is (by omega) ?_; conv => whnf) | (refine at_is rfl (by assumption) ?_; conv => whnf) | (refine most_ok (by (try simp only [List.length_append, List.length_map, List.length_cons, List.length_nil]); omega) ?_; conv => whnf) | (refine rem_ok (by first | decide | omega) ?_; conv => whnf) | (refine if_both (fun _ => ?_) (fun _ => ?_) <;> conv => whnf)))
  refine call_pure rfl (ffault_pure c a s) ?_; rintro y rfl
  ((conv => whnf); repeat' (first | (refine if_yes (by first | omega | rfl | assumption | exact ⟨rfl, rfl⟩ | exact ⟨rfl, rfl, rfl⟩ | exact ⟨rfl, rfl, rfl, rfl⟩) ?_; conv => whnf) | (refine if_no (by first | omega | assumption | exact fun h => h rfl | exact fun h => h (by assumption) | exact fun h => h ⟨rfl, rfl⟩ | exact fun h => h ⟨rfl, rfl, rfl⟩ | exact fun h => h ⟨rfl, rfl, rfl, rfl⟩) ?_; conv => whnf) | (refine i64_is (by omega) ?_; conv => whnf) | (refine at_is rfl (by assumption) ?_; conv => whnf) | (refine most_ok (by (try simp only [List.length_append, List.length_map, List.length_cons, List.length_nil]); omega) ?_; conv => whnf) | (refine rem_ok (by first | decide | omega) ?_; conv => whnf) | (refine if_both (fun _ => ?_) (fun _ => ?_) <;> conv => whnf)))
  all_goals exact rfl
theorem code_nil_pure : Pure C1 13 [.nili] (fun y => y = .int .i64 0) := by
  refine pure_of c1_ok (pl := []) (G := []) Tryd.func13 rfl Tryd.ntmps13 (by intro vs w; kernel_rfl) (by kernel_rfl) (by simp) ?_
  ((conv => whnf); repeat' (first | (refine if_yes (by first | omega | rfl | assumption | exact ⟨rfl, rfl⟩ | exact ⟨rfl, rfl, rfl⟩ | exact ⟨rfl, rfl, rfl, rfl⟩) ?_; conv => whnf) | (refine if_no (by first | omega | assumption | exact fun h => h rfl | exact fun h => h (by assumption) | exact fun h => h ⟨rfl, rfl⟩ | exact fun h => h ⟨rfl, rfl, rfl⟩ | exact fun h => h ⟨rfl, rfl, rfl, rfl⟩) ?_; conv => whnf) | (refine i64_is (by omega) ?_; conv => whnf) | (refine at_is rfl (by assumption) ?_; conv => whnf) | (refine most_ok (by (try simp only [List.length_append, List.length_map, List.length_cons, List.length_nil]); omega) ?_; conv => whnf) | (refine rem_ok (by first | decide | omega) ?_; conv => whnf) | (refine if_both (fun _ => ?_) (fun _ => ?_) <;> conv => whnf)))
  all_goals exact rfl
end Go.Proofs.YtlchegpgicdldaaDoor
