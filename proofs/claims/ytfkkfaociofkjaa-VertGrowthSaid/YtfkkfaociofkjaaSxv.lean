/- Short rules for calls whose answer is known outright. -/
import Derived.Test.YtfkkfaociofkjaaSxu
namespace Go.Sx
open Go Go.RowKit Go.Reg
section
variable {C : Cx} {T : Tab} {fr : Fr} {σ : Sg}
theorem call_eq {q : Bool} {f : FuncId} {args : List Dat} {xs : List Da} {z : Da} {K : KD} (ha : allD args = some xs) (hp : Pure C f xs (fun y => y = z)) (hK : K (.d z) fr σ) : SxCall C q f args K fr σ :=
  call_pure ha hp fun y hy => by subst hy; exact hK
theorem call_eqb {q : Bool} {f : FuncId} {args : List Dat} {xs : List Da} {z : Da} {K : KD} (T : Tab) (ha : close.closeL (close T σ 9) args = some xs) (hp : Pure C f xs (fun y => y = z)) (hfl : z.flat = true) (hK : K (.d z) fr σ) : SxCall C q f args K fr σ :=
  call_borrow T ha hp (fun y hy => by subst hy; exact hfl) fun y hy => by subst hy; exact hK
theorem shr_of {k : IntKind} {a : Int} (b : Nat) (hb : b ≤ 8) (yk : IntKind) : Op.shift .shr k a yk (b : Int) = pure (.int k (a.fdiv (2 ^ b))) := by
  unfold Op.shift
  have h1 : ¬ ((b : Int) < 0) := by omega
  have h2 : min ((b : Int).toNat) k.bits = b := by
    have h3 : 8 ≤ k.bits := by cases k <;> decide
    rw [Int.toNat_natCast]; omega
  rw [if_neg h1, h2]
/-- 'x >> n' -/
theorem op_shr (b : Nat) {n kd : Nat} {o : Oper} {K : Fr → Sg → Prop} {t ty : Nat} {x y : Operand} {k yk : IntKind} {a : Int} (ho : o.op = .binOp .shr t x y ty) (hx : ev C.Γ fr x = .d (.int k a)) (hy : ev C.Γ fr y = .d (.int yk (b : Int))) (hb : b ≤ 8) (hkd : kd = 3) (hd : dstOk o.dst n = true)
    (hK : K (putF o.dst (.d (.int k (a.fdiv (2 ^ b)))) fr) σ) : OpSem C n kd o K fr σ := by
  subst hkd
  refine opSem_calc (by decide) (by decide) hd fun B S w0 η φ a' w hM => ?_
  have e1 := rep_int (rd_da (ev_rep hM x) hx)
  have e2 := rep_int (rd_da (ev_rep hM y) hy)
  refine .inr ⟨_, _, hK, ?_, rd_int _ _, fun h => by cases h⟩
  simp only [execOp, ho]
  rw [e1, e2]
  refine run_v ?_
  simp [eqGuard, binOp, shr_of b hb]
end
end Go.Sx
