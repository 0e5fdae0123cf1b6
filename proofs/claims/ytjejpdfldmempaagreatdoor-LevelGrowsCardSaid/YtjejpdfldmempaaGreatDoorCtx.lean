/- What stays the same in a walk: the program, and what its variables hold. -/
import Derived.Test.YtjejpdfldmempaaGreatDoorSxu
import Derived.Test.YtjejpdfldmempaaGreatDoorRows
import Derived.Test.YtjejpdfldmempaaGreatDoorTab
namespace Go.Proofs.YtjejpdfldmempaaGreatDoor
open Go.Sx Go.RowKit Go.Reg

set_option maxRecDepth 100000
noncomputable def C1 : Cx := ⟨Tryz.prog, [(0, .raw (.iface 293 (.agg #[.pointer (some ⟨5,39,none⟩)])))]⟩
theorem c1_ok : C1.Ok tab := ⟨by kernel_rfl, by kernel_rfl⟩
end Go.Proofs.YtjejpdfldmempaaGreatDoor
