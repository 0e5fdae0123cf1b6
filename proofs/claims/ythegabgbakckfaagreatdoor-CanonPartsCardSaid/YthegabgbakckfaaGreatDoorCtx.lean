/- What stays the same in a walk: the program; no variable is known (for rows that lay no errors.errorType, in a seat that has it: tools/ctx0.sh puts this text in the place of Ctx). -/
import Derived.Test.YthegabgbakckfaaGreatDoorSxu
import Derived.Test.YthegabgbakckfaaGreatDoorRows
import Derived.Test.YthegabgbakckfaaGreatDoorTab
namespace Go.Proofs.YthegabgbakckfaaGreatDoor
open Go.Sx Go.RowKit Go.Reg

set_option maxRecDepth 100000
noncomputable def C1 : Cx := ⟨Tryz.prog, []⟩
theorem c1_ok : C1.Ok tab := ⟨by kernel_rfl, by kernel_rfl⟩
end Go.Proofs.YthegabgbakckfaaGreatDoor
