/- What stays the same in a walk: the program, and what its variables hold. -/
import Derived.Test.YtmkbgbnehokmmaaSxu
import Derived.Test.YtmkbgbnehokmmaaRows
import Derived.Test.YtmkbgbnehokmmaaTab
namespace Go.Proofs.Ytmkbgbnehokmmaa
open Go.Sx Go.RowKit Go.Reg

set_option maxRecDepth 100000
noncomputable def C1 : Cx := ⟨Try.prog, []⟩
theorem c1_ok : C1.Ok tab := ⟨by kernel_rfl, by kernel_rfl⟩
end Go.Proofs.Ytmkbgbnehokmmaa
