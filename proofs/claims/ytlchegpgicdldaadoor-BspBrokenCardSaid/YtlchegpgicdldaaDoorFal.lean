/- Faults as data: New, In. -/
import Derived.Test.YtlchegpgicdldaaDoorCtx
namespace Go.Proofs.YtlchegpgicdldaaDoor
open Go.Sx Go.RowKit Go.Reg

set_option maxRecDepth 100000
/-- a fault -/
def dF (c a : Int) (s : ByteArray) : Da := .iface 69 (.ref (.agg [.int .i64 c, .int .i64 a, .str s]))
/-- a step around an error -/
def dS (s : ByteArray) (x : Da) : Da := .iface 87 (.ref (.agg [.str s, x]))
theorem fnew_pure (c a : Int) (s : ByteArray) : Pure C1 26 [.int .i64 c, .int .i64 a, .str s] (fun y => y = dF c a s) := by
  refine pure_of c1_ok (pl := []) (G := []) Tryd.func26 rfl Tryd.ntmps26 (by intro vs w; kernel_rfl) (by kernel_rfl) (by simp) ?_
  ((conv => whnf); repeat' ((first | refine odw ?_ | refine ify ?_ | refine ifn ?_ | refine i6 ?_ | refine ati ?_ | refine mst ?_ | refine rmd ?_ | refine ibo (fun _ => ?_) (fun _ => ?_)) <;> conv => whnf))
  all_goals exact rfl
theorem in_pure (s : ByteArray) (t : TypeId) (x : Da) : Pure C1 28 [.str s, .iface t x] (fun y => y = dS s ((Da.iface t x).plain)) := by
  refine pure_of c1_ok (pl := []) (G := []) Tryd.func28 rfl Tryd.ntmps28 (by intro vs w; kernel_rfl) (by kernel_rfl) (by simp) ?_
  ((conv => whnf); repeat' ((first | refine odw ?_ | refine ify ?_ | refine ifn ?_ | refine i6 ?_ | refine ati ?_ | refine mst ?_ | refine rmd ?_ | refine ibo (fun _ => ?_) (fun _ => ?_)) <;> conv => whnf))
  all_goals exact rfl
theorem in_f_pure (s : ByteArray) (c a : Int) (z : ByteArray) : Pure C1 28 [.str s, dF c a z] (fun y => y = dS s (dF c a z)) := in_pure s _ _
end Go.Proofs.YtlchegpgicdldaaDoor
