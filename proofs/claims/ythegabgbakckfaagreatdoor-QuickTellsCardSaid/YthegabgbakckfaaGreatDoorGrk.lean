/- Graphs: At. -/
import Derived.Test.YthegabgbakckfaaGreatDoorGrh
import Derived.Test.YthegabgbakckfaaGreatDoorAts
namespace Go.Proofs.YthegabgbakckfaaGreatDoor
open Go.Sx Go.RowKit Go.Reg Go.Gr

set_option maxRecDepth 100000
theorem values_pure (l : List Int) : Pure C1 68 [dIs l] (fun y => y = .func (.func 132) [] [.ref (dIs l)]) := by
  refine pure_of c1_ok (pl := []) (G := []) Tryz.func68 rfl Tryz.ntmps68 (by intro vs w; kernel_rfl) (by kernel_rfl) (by simp) ?_
  ((conv => whnf); repeat' ((first | refine odw ?_ | refine ify ?_ | refine ifn ?_ | refine i6 ?_ | refine ati ?_ | refine mst ?_ | refine rmd ?_ | refine ibo (fun _ => ?_) (fun _ => ?_)) <;> conv => whnf))
  exact rfl
theorem sorted_self {l : List Int} (h : l.Pairwise (· < ·)) : l.mergeSort (fun x y => decide (x ≤ y)) = l :=
  List.mergeSort_of_pairwise (h.imp fun h => by simp; omega)
theorem idsOf_len (E : List Edg) (v : Nat) : (idsOf E v).length = deg E v := by
  rw [idsOf, List.length_append, (ids_len E v).1, (ids_len E v).2, deg, nearOf, List.length_append]
theorem ids_cut {n v : Nat} (E : List Edg) (h : v < n) : (((idsL n E).map dI).take (off (deg E) (v + 1))).drop (off (deg E) v) = (idsOf E v).map dI := by
  rw [← List.map_take, ← List.map_drop, idsL, flat_cut (idsOf E) (deg E) (idsOf_len E) h]
def atY (G : Gr) (v : Int) : Da := if 0 ≤ v ∧ v < G.labels.length then dIs (atD G.edges v.toNat) else .nils
end Go.Proofs.YthegabgbakckfaaGreatDoor
