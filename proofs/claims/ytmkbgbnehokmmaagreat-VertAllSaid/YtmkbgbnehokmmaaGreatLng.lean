/- LinesVerts: the walk. -/
import Derived.Test.YtmkbgbnehokmmaaGreatLnf
namespace Go.Gr
theorem endsOf_append (E : List Edg) (a b : List Int) : endsOf E (a ++ b) = endsOf E a ++ endsOf E b := by simp [endsOf, List.filterMap_append]
theorem endsOf_at {E : List Edg} {l : List Int} {i m : Nat} {e : Edg} (h : l[i]? = some (m : Int)) (he : E[m]? = some e) : (endsOf E l)[(endsOf E (l.take i)).length]? = some e := by
  obtain ⟨hi, hx⟩ := List.getElem?_eq_some_iff.1 h
  have e1 : l = l.take i ++ ([(m : Int)] ++ l.drop (i + 1)) := by
    rw [← hx, List.singleton_append, ← List.drop_eq_getElem_cons hi, List.take_append_drop]
  have e2 : endsOf E l = endsOf E (l.take i) ++ ([e] ++ endsOf E (l.drop (i + 1))) := by
    conv => lhs; rw [e1]
    rw [endsOf_append, endsOf_append]
    have := endsOf_in (l := []) he
    simp only [List.nil_append] at this
    rw [this]; rfl
  rw [e2, List.getElem?_append_right (Nat.le_refl _), Nat.sub_self]
  rfl
end Go.Gr
namespace Go.Proofs.YtmkbgbnehokmmaaGreat
open Go.Sx Go.RowKit Go.Reg Go.Gr

set_option maxRecDepth 100000
theorem same_yes (l : List Int) : Pure C1 9 [dIs l, dIs l] (fun y => y = .bool true) := by
  have := same_pure l l
  rwa [decide_eq_true rfl] at this
end Go.Proofs.YtmkbgbnehokmmaaGreat
