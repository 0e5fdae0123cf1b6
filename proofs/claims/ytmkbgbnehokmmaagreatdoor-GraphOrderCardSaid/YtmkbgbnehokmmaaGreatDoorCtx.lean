/- What stays the same in a walk: the program, and what its variables hold. -/
import Derived.Test.YtmkbgbnehokmmaaGreatDoorSxu
import Derived.Test.YtmkbgbnehokmmaaGreatDoorRows
import Derived.Test.YtmkbgbnehokmmaaGreatDoorTab
namespace Go.Proofs.YtmkbgbnehokmmaaGreatDoor
open Go.Sx Go.RowKit Go.Reg

set_option maxRecDepth 100000
noncomputable def C1 : Cx := ⟨Tryz.prog, [(0, .raw (.iface 126 (.agg #[.pointer (some ⟨1,35,none⟩)])))]⟩
theorem c1_ok : C1.Ok tab := ⟨by kernel_rfl, by kernel_rfl⟩
end Go.Proofs.YtmkbgbnehokmmaaGreatDoor
