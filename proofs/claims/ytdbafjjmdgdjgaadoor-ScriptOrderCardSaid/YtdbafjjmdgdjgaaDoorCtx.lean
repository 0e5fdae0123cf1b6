/- What stays the same in a walk: the program, and what its variables hold. -/
import Derived.Test.YtdbafjjmdgdjgaaDoorSxu
import Derived.Test.YtdbafjjmdgdjgaaDoorRows
import Derived.Test.YtdbafjjmdgdjgaaDoorTab
namespace Go.Proofs.YtdbafjjmdgdjgaaDoor
open Go.Sx Go.RowKit Go.Reg

set_option maxRecDepth 100000
noncomputable def C1 : Cx := ⟨Tryd.prog, [(0, .raw (.iface 97 (.agg #[.pointer (some ⟨7,25,none⟩)])))]⟩
theorem c1_ok : C1.Ok tab := ⟨by kernel_rfl, by kernel_rfl⟩
end Go.Proofs.YtdbafjjmdgdjgaaDoor
