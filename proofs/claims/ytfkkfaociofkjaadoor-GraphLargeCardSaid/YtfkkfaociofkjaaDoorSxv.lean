/- Short rules for calls whose answer is known outright. -/
import Derived.Test.YtfkkfaociofkjaaDoorSxu
namespace Go.Sx
open Go Go.RowKit Go.Reg
section
variable {C : Cx} {T : Tab} {fr : Fr} {σ : Sg}
theorem call_eq {q : Bool} {f : FuncId} {args : List Dat} {xs : List Da} {z : Da} {K : KD} (ha : allD args = some xs) (hp : Pure C f xs (fun y => y = z)) (hK : K (.d z) fr σ) : SxCall C q f args K fr σ :=
  call_pure ha hp fun y hy => by subst hy; exact hK
theorem call_eqb {q : Bool} {f : FuncId} {args : List Dat} {xs : List Da} {z : Da} {K : KD} (T : Tab) (ha : close.closeL (close T σ 9) args = some xs) (hp : Pure C f xs (fun y => y = z)) (hfl : z.flat = true) (hK : K (.d z) fr σ) : SxCall C q f args K fr σ :=
  call_borrow T ha hp (fun y hy => by subst hy; exact hfl) fun y hy => by subst hy; exact hK
end
end Go.Sx
