/- What stays the same in a walk: the program, and what its variables hold. -/
import Derived.Test.YtmkbgbnehokmmaaGreatSxu
import Derived.Test.YtmkbgbnehokmmaaGreatRows
import Derived.Test.YtmkbgbnehokmmaaGreatTab
namespace Go.Proofs.YtmkbgbnehokmmaaGreat
open Go.Sx Go.RowKit Go.Reg

set_option maxRecDepth 100000
noncomputable def C1 : Cx := ⟨Tryz.prog, []⟩
theorem c1_ok : C1.Ok tab := ⟨by kernel_rfl, by kernel_rfl⟩
end Go.Proofs.YtmkbgbnehokmmaaGreat
