/- The end of a drawn order's second run, in one rule. -/
import Derived.Test.YtjejpdfldmempaaGreatDoorCtx
namespace Go.Sx
theorem oend {F fr : Fr} {Z σ : Sg} (h : Sub F fr := by (repeat' (first | exact trivial | exact rfl | refine And.intro ?_ ?_))) (h2 : σ = Z := by exact rfl) : Sub F fr ∧ σ = Z := ⟨h, h2⟩
end Go.Sx
