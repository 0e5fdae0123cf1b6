/- Faults as data: New, In. -/
import Derived.Test.YtdbafjjmdgdjgaaDoorCtx
namespace Go.Proofs.YtdbafjjmdgdjgaaDoor
open Go.Sx Go.RowKit Go.Reg

set_option maxRecDepth 100000
/-- a fault -/
def dF (c a : Int) (s : ByteArray) : Da := .iface 53 (.ref (.agg [.int .i64 c, .int .i64 a, .str s]))
theorem fnew_pure (c a : Int) (s : ByteArray) : Pure C1 18 [.int .i64 c, .int .i64 a, .str s] (fun y => y = dF c a s) := by
  refine pure_of c1_ok (pl := []) (G := []) Tryd.func18 rfl Tryd.ntmps18 (by intro vs w; kernel_rfl) (by kernel_rfl) (by simp) ?_
  ((conv => whnf); repeat' ((first | refine odw ?_ | refine ify ?_ | refine ifn ?_ | refine i6 ?_ | refine ati ?_ | refine mst ?_ | refine rmd ?_ | refine ibo (fun _ => ?_) (fun _ => ?_)) <;> conv => whnf))
  all_goals exact rfl
end Go.Proofs.YtdbafjjmdgdjgaaDoor
