/- Faults as data: New, In. -/
import Derived.Test.YteigfapjiekdnaaGreatDoorCtx
namespace Go.Proofs.YteigfapjiekdnaaGreatDoor
open Go.Sx Go.RowKit Go.Reg

set_option maxRecDepth 100000
/-- a fault -/
def dF (c a : Int) (s : ByteArray) : Da := .iface 139 (.ref (.agg [.int .i64 c, .int .i64 a, .str s]))
/-- a step around an error -/
def dS (s : ByteArray) (x : Da) : Da := .iface 169 (.ref (.agg [.str s, x]))
theorem fnew_pure (c a : Int) (s : ByteArray) : Pure C1 63 [.int .i64 c, .int .i64 a, .str s] (fun y => y = dF c a s) := by
  refine pure_of c1_ok (pl := []) (G := []) Tryz.func63 rfl Tryz.ntmps63 (by intro vs w; kernel_rfl) (by kernel_rfl) (by simp) ?_
  ((conv => whnf); repeat' ((first | refine odw ?_ | refine ify ?_ | refine ifn ?_ | refine i6 ?_ | refine ati ?_ | refine mst ?_ | refine rmd ?_ | refine ibo (fun _ => ?_) (fun _ => ?_)) <;> conv => whnf))
  all_goals exact rfl
theorem in_pure (s : ByteArray) (t : TypeId) (x : Da) : Pure C1 80 [.str s, .iface t x] (fun y => y = dS s ((Da.iface t x).plain)) := by
  refine pure_of c1_ok (pl := []) (G := []) Tryz.func80 rfl Tryz.ntmps80 (by intro vs w; kernel_rfl) (by kernel_rfl) (by simp) ?_
  ((conv => whnf); repeat' ((first | refine odw ?_ | refine ify ?_ | refine ifn ?_ | refine i6 ?_ | refine ati ?_ | refine mst ?_ | refine rmd ?_ | refine ibo (fun _ => ?_) (fun _ => ?_)) <;> conv => whnf))
  all_goals exact rfl
theorem in_f_pure (s : ByteArray) (c a : Int) (z : ByteArray) : Pure C1 80 [.str s, dF c a z] (fun y => y = dS s (dF c a z)) := in_pure s _ _
end Go.Proofs.YteigfapjiekdnaaGreatDoor
