/- What stays the same in a walk: the program, and what its variables hold. -/
import Derived.Test.YtlchegpgicdldaaDoorSxu
import Derived.Test.YtlchegpgicdldaaDoorRows
import Derived.Test.YtlchegpgicdldaaDoorTab
namespace Go.Proofs.YtlchegpgicdldaaDoor
open Go.Sx Go.RowKit Go.Reg

set_option maxRecDepth 100000
noncomputable def C1 : Cx := ⟨Tryd.prog, [(0, .raw (.iface 127 (.agg #[.pointer (some ⟨1,26,none⟩)])))]⟩
theorem c1_ok : C1.Ok tab := ⟨by kernel_rfl, by kernel_rfl⟩
end Go.Proofs.YtlchegpgicdldaaDoor
