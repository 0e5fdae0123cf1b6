/- What stays the same in a walk: the program, and what its variables hold. -/
import Derived.Test.YthegabgbakckfaaGreatDoorSxu
import Derived.Test.YthegabgbakckfaaGreatDoorRows
import Derived.Test.YthegabgbakckfaaGreatDoorTab
namespace Go.Proofs.YthegabgbakckfaaGreatDoor
open Go.Sx Go.RowKit Go.Reg

set_option maxRecDepth 100000
noncomputable def C1 : Cx := ⟨Tryz.prog, [(0, .raw (.iface 238 (.agg #[.pointer (some ⟨5,45,none⟩)])))]⟩
theorem c1_ok : C1.Ok tab := ⟨by kernel_rfl, by kernel_rfl⟩
end Go.Proofs.YthegabgbakckfaaGreatDoor
