/- What stays the same in a walk: the program, and what its variables hold. -/
import Derived.Test.YteigfapjiekdnaaGreatDoorSxu
import Derived.Test.YteigfapjiekdnaaGreatDoorRows
import Derived.Test.YteigfapjiekdnaaGreatDoorTab
namespace Go.Proofs.YteigfapjiekdnaaGreatDoor
open Go.Sx Go.RowKit Go.Reg

set_option maxRecDepth 100000
noncomputable def C1 : Cx := ⟨Tryz.prog, [(0, .raw (.iface 234 (.agg #[.pointer (some ⟨5,33,none⟩)])))]⟩
theorem c1_ok : C1.Ok tab := ⟨by kernel_rfl, by kernel_rfl⟩
end Go.Proofs.YteigfapjiekdnaaGreatDoor
