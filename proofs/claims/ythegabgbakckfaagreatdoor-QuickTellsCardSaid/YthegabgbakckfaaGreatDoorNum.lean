/- ref05: Num · ref25: Line. -/
import Derived.Test.YthegabgbakckfaaGreatDoorScp
import Derived.Test.YthegabgbakckfaaGreatDoorStr
import Derived.Test.YthegabgbakckfaaGreatDoorCtx
namespace Go.Sx
open Go
theorem cat_ok {a b : ByteArray} {K : Prop} (h : a.size + b.size ≤ 9223372036854775807) (hK : K) : a.size + b.size ≤ 9223372036854775807 ∧ K := ⟨h, hK⟩
theorem u8_is {e : Int} {K : Int → Prop} (h : 0 ≤ e ∧ e ≤ 255) (hK : K e) : ∃ n, IntKind.u8.wrap e = n ∧ K n := ⟨e, by
  have e1 : IntKind.u8.wrap e = e % 256 := rfl
  rw [e1]; omega, hK⟩
theorem at_ls {ds : List Da} {i : Nat} {d : Da} {n : Int} {K : Nat → Da → Prop} (hx : ds[i]? = some d) (hn : n = i) (hK : K i d) : ∃ (j : Nat) (d : Da), n = j ∧ ds[j]? = some d ∧ K j d := ⟨i, d, hn, hx, hK⟩
end Go.Sx
namespace Go.Proofs.YthegabgbakckfaaGreatDoor
open Go.Sx Go.RowKit Go.Reg Go.Gr

set_option maxRecDepth 100000
end Go.Proofs.YthegabgbakckfaaGreatDoor
