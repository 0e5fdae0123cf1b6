/- far; NetNumbers: the walks, by the engine. -/
import Derived.Test.YtlpjdngjmknniaaDoorNxa
namespace Go.Proofs.YtlpjdngjmknniaaDoor
open Go.Sx Go.RowKit Go.Reg

set_option maxRecDepth 100000
def pl14 : List (Nat × Plan) := []
theorem cok14 : codeOk Tryd.prog [] pl14 (Tryd.f14.body.getD .skip) = true := by kernel_rfl
theorem run14 (vs : Array Value) (w : World) : (callFunc 14 vs).run C1.P w = .ok (.enter 14 vs) w := by kernel_rfl
theorem far_pure (l : List ActM) : Pure C1 14 [.list 4 (l.map dA)] (fun y => y = .bool (farM l)) := by
  refine Pure.assume (P := l.length ≤ maxLen) (fun O w us hr => by simpa using reps_len hr (List.mem_cons_self ..)) fun hmax => ?_
  unfold maxLen at hmax
  refine pure_of c1_ok (pl := pl14) (G := []) Tryd.func14 rfl Tryd.ntmps14 run14 cok14 (by simp) ?_
  have hl : (l.map dA).length = l.length := List.length_map _
  (conv => whnf); repeat' (first | (refine if_yes (by omega) ?_; conv => whnf) | (refine if_no (by omega) ?_; conv => whnf) | (refine i64_is (by omega) ?_; conv => whnf) | (refine at_is rfl (by assumption) ?_; conv => whnf) | (refine most_ok (by (try simp only [List.length_append, List.length_map, List.length_cons, List.length_nil]); omega) ?_; conv => whnf) | (refine if_both (fun _ => ?_) (fun _ => ?_) <;> conv => whnf))
  refine codeSem_loop (ι := Nat) (fun i => i ≤ l.length ∧ ∀ x ∈ l.take i, bad x = false) (fun i => [(3, .d (.int .i64 i)), (2, .d (.bool false)), (0, .d (.list 4 (l.map dA)))]) (fun _ => []) (fun i => l.length - i) 0 ⟨Nat.zero_le _, by simp⟩ ⟨rfl, rfl, rfl, trivial⟩ rfl ?_
  rintro i ⟨hi, hb⟩
  refine sxCode_sound c1_ok (G := []) (pl := pl14) _ _ _ _ (by kernel_rfl) ?_
  by_cases hlt : i < l.length
  · have hx := List.getElem?_eq_getElem hlt
    generalize l[i] = x at hx
    cases hbx : bad x with
    | true =>
      have e := far_true hx hbx
      simp [bad] at hbx
      rw [e]
      (conv => whnf); repeat' (first | (refine if_yes (by omega) ?_; conv => whnf) | (refine if_no (by omega) ?_; conv => whnf) | (refine i64_is (by omega) ?_; conv => whnf) | (refine at_is rfl (by assumption) ?_; conv => whnf) | (refine most_ok (by (try simp only [List.length_append, List.length_map, List.length_cons, List.length_nil]); omega) ?_; conv => whnf) | (refine if_both (fun _ => ?_) (fun _ => ?_) <;> conv => whnf))
      all_goals exact rfl
    | false =>
      have hb' : ∀ y ∈ l.take (i + 1), bad y = false := by
        rw [List.take_add_one, hx]; intro y hy
        rcases List.mem_append.1 hy with hy | hy
        · exact hb y hy
        · simp at hy; rw [hy]; exact hbx
      simp [bad] at hbx
      (conv => whnf); repeat' (first | (refine if_yes (by omega) ?_; conv => whnf) | (refine if_no (by omega) ?_; conv => whnf) | (refine i64_is (by omega) ?_; conv => whnf) | (refine at_is rfl (by assumption) ?_; conv => whnf) | (refine most_ok (by (try simp only [List.length_append, List.length_map, List.length_cons, List.length_nil]); omega) ?_; conv => whnf) | (refine if_both (fun _ => ?_) (fun _ => ?_) <;> conv => whnf))
      exact ⟨i + 1, ⟨by omega, hb'⟩, ⟨rfl, rfl, rfl, trivial⟩, rfl, by omega⟩
  · (conv => whnf); repeat' (first | (refine if_yes (by omega) ?_; conv => whnf) | (refine if_no (by omega) ?_; conv => whnf) | (refine i64_is (by omega) ?_; conv => whnf) | (refine at_is rfl (by assumption) ?_; conv => whnf) | (refine most_ok (by (try simp only [List.length_append, List.length_map, List.length_cons, List.length_nil]); omega) ?_; conv => whnf) | (refine if_both (fun _ => ?_) (fun _ => ?_) <;> conv => whnf))
    have e : farM l = decide (60 < l.length) := by
      have : l.any bad = false := List.any_eq_false.2 fun x hx => by rw [hb x (by rw [List.take_of_length_le (by omega)]; exact hx)]; simp
      simp [farM, this]
    rw [e]
    show Da.bool (decide ((60 : Int) < ((l.map dA).length : Nat))) = _
    congr 1
    simp
    omega
end Go.Proofs.YtlpjdngjmknniaaDoor
