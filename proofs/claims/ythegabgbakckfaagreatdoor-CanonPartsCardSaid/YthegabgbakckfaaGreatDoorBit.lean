/- The engine's rules of '&', '|', '<<' on numbers from 0 on; a set of places as bits. -/
import Derived.Test.YthegabgbakckfaaGreatDoorSxu
namespace Go.Sx
open Go Go.RowKit Go.Reg
theorem i64_and_nat (a b : Nat) (ha : a < 9223372036854775808) (hb : b < 9223372036854775808) : IntKind.i64.wrap ((BitVec.ofInt 64 (a : Int) &&& BitVec.ofInt 64 (b : Int)).toNat : Int) = ((a &&& b : Nat) : Int) := by
  have hx : a &&& b < 2 ^ 63 := Nat.and_lt_two_pow _ (by omega)
  have h1 : (BitVec.ofInt 64 (a : Int)).toNat = a := by rw [BitVec.ofInt_natCast, BitVec.toNat_ofNat]; exact Nat.mod_eq_of_lt (by omega)
  have h2 : (BitVec.ofInt 64 (b : Int)).toNat = b := by rw [BitVec.ofInt_natCast, BitVec.toNat_ofNat]; exact Nat.mod_eq_of_lt (by omega)
  rw [BitVec.toNat_and, h1, h2, IntKind.wrap_i64]
  omega
theorem i64_or_nat (a b : Nat) (ha : a < 9223372036854775808) (hb : b < 9223372036854775808) : IntKind.i64.wrap ((BitVec.ofInt 64 (a : Int) ||| BitVec.ofInt 64 (b : Int)).toNat : Int) = ((a ||| b : Nat) : Int) := by
  have hx : a ||| b < 2 ^ 63 := Nat.or_lt_two_pow (by omega) (by omega)
  have h1 : (BitVec.ofInt 64 (a : Int)).toNat = a := by rw [BitVec.ofInt_natCast, BitVec.toNat_ofNat]; exact Nat.mod_eq_of_lt (by omega)
  have h2 : (BitVec.ofInt 64 (b : Int)).toNat = b := by rw [BitVec.ofInt_natCast, BitVec.toNat_ofNat]; exact Nat.mod_eq_of_lt (by omega)
  rw [BitVec.toNat_or, h1, h2, IntKind.wrap_i64]
  omega
theorem shl_nat (b : Nat) (hb : b ≤ 30) (k yk : IntKind) (hk : 30 ≤ k.bits) (a : Int) : Op.shift .shl k a yk (b : Int) = pure (.int k (k.wrap (a * 2 ^ b))) := by
  unfold Op.shift
  have h1 : ¬ ((b : Int) < 0) := by omega
  have h2 : min ((b : Int).toNat) k.bits = b := by rw [Int.toNat_natCast]; omega
  rw [if_neg h1, h2]
section
variable {C : Cx} {fr : Fr} {σ : Sg}
/-- 'x & y' -/
theorem op_and (a b z : Nat) (hz : a &&& b = z) {n kd : Nat} {o : Oper} {K : Fr → Sg → Prop} {t ty : Nat} {x y : Operand} (ho : o.op = .binOp .and t x y ty) (hx : ev C.Γ fr x = .d (.int .i64 (a : Int))) (hy : ev C.Γ fr y = .d (.int .i64 (b : Int))) (ha : a < 9223372036854775808) (hb : b < 9223372036854775808) (hkd : kd = 3) (hd : dstOk o.dst n = true)
    (hK : K (putF o.dst (.d (.int .i64 (z : Int))) fr) σ) : OpSem C n kd o K fr σ := by
  subst hkd hz
  refine opSem_calc (by decide) (by decide) hd fun B S w0 η φ a' w hM => ?_
  have e1 := rep_int (rd_da (ev_rep hM x) hx)
  have e2 := rep_int (rd_da (ev_rep hM y) hy)
  refine .inr ⟨_, _, hK, ?_, rd_int _ _, fun h => by cases h⟩
  simp only [execOp, ho]
  rw [e1, e2]
  refine run_v ?_
  have := i64_and_nat a b ha hb
  rw [BitVec.ofInt_natCast, BitVec.ofInt_natCast] at this
  simp [eqGuard, binOp, Op.intBits]
  exact this
/-- 'x | y' -/
theorem op_or (a b z : Nat) (hz : a ||| b = z) {n kd : Nat} {o : Oper} {K : Fr → Sg → Prop} {t ty : Nat} {x y : Operand} (ho : o.op = .binOp .or t x y ty) (hx : ev C.Γ fr x = .d (.int .i64 (a : Int))) (hy : ev C.Γ fr y = .d (.int .i64 (b : Int))) (ha : a < 9223372036854775808) (hb : b < 9223372036854775808) (hkd : kd = 3) (hd : dstOk o.dst n = true)
    (hK : K (putF o.dst (.d (.int .i64 (z : Int))) fr) σ) : OpSem C n kd o K fr σ := by
  subst hkd hz
  refine opSem_calc (by decide) (by decide) hd fun B S w0 η φ a' w hM => ?_
  have e1 := rep_int (rd_da (ev_rep hM x) hx)
  have e2 := rep_int (rd_da (ev_rep hM y) hy)
  refine .inr ⟨_, _, hK, ?_, rd_int _ _, fun h => by cases h⟩
  simp only [execOp, ho]
  rw [e1, e2]
  refine run_v ?_
  have := i64_or_nat a b ha hb
  rw [BitVec.ofInt_natCast, BitVec.ofInt_natCast] at this
  simp [eqGuard, binOp, Op.intBits]
  exact this
/-- '1 << b' -/
theorem op_bit (b : Nat) {n kd : Nat} {o : Oper} {K : Fr → Sg → Prop} {t ty : Nat} {x y : Operand} {yk : IntKind} (ho : o.op = .binOp .shl t x y ty) (hx : ev C.Γ fr x = .d (.int .i64 1)) (hy : ev C.Γ fr y = .d (.int yk (b : Int))) (hb : b ≤ 30) (hkd : kd = 3) (hd : dstOk o.dst n = true)
    (hK : K (putF o.dst (.d (.int .i64 ((2 ^ b : Nat) : Int))) fr) σ) : OpSem C n kd o K fr σ := by
  subst hkd
  refine opSem_calc (by decide) (by decide) hd fun B S w0 η φ a' w hM => ?_
  have e1 := rep_int (rd_da (ev_rep hM x) hx)
  have e2 := rep_int (rd_da (ev_rep hM y) hy)
  refine .inr ⟨_, _, hK, ?_, rd_int _ _, fun h => by cases h⟩
  simp only [execOp, ho]
  rw [e1, e2]
  refine run_v ?_
  have h1 : (2 : Nat) ^ b ≤ 2 ^ 30 := Nat.pow_le_pow_right (by decide) hb
  have h3 : ((2 ^ b : Nat) : Int) = (2 : Int) ^ b := by norm_cast
  have h2 : IntKind.i64.wrap ((2 : Int) ^ b) = (2 : Int) ^ b := by
    rw [← h3]
    generalize (2 : Nat) ^ b = q at h1
    exact wrap64_in ⟨by omega, by omega⟩
  simp [eqGuard, binOp, h2]
/-- 'x >> b' of a number from 0 on -/
theorem op_shrz (b m z : Nat) (hz : m / 2 ^ b = z) {n kd : Nat} {o : Oper} {K : Fr → Sg → Prop} {t ty : Nat} {x y : Operand} {k yk : IntKind} (ho : o.op = .binOp .shr t x y ty) (hx : ev C.Γ fr x = .d (.int k (m : Int))) (hy : ev C.Γ fr y = .d (.int yk (b : Int))) (hb : b ≤ 8) (hkd : kd = 3) (hd : dstOk o.dst n = true)
    (hK : K (putF o.dst (.d (.int k (z : Int))) fr) σ) : OpSem C n kd o K fr σ := by
  subst hz
  refine op_shr b ho hx hy hb hkd hd ?_
  have : (m : Int).fdiv (2 ^ b) = ((m / 2 ^ b : Nat) : Int) := by
    rw [Int.fdiv_eq_ediv_of_nonneg _ (Int.pow_nonneg (by decide))]
    simp
  rw [this]; exact hK
end
end Go.Sx
namespace Go.Gr
/-- places as bits -/
def maskOf (l : List Nat) : Nat := l.foldl (fun s x => s ||| 2 ^ x) 0
theorem mask_snoc (l : List Nat) (x : Nat) : maskOf (l ++ [x]) = maskOf l ||| 2 ^ x := by simp [maskOf, List.foldl_append]
theorem mask_bit (l : List Nat) (k : Nat) : (maskOf l).testBit k = decide (k ∈ l) := by
  suffices h : ∀ l : List Nat, (maskOf l.reverse).testBit k = decide (k ∈ l) by
    have := h l.reverse
    rw [List.reverse_reverse] at this
    rw [this]; simp
  intro l
  induction l with
  | nil => simp [maskOf]
  | cons x l ih =>
    rw [List.reverse_cons, mask_snoc, Nat.testBit_or, ih, Nat.testBit_two_pow]
    by_cases h : x = k
    · subst h; simp
    · simp [h, Ne.symm h]
theorem mask_lt (l : List Nat) (n : Nat) (h : ∀ x ∈ l, x < n) : maskOf l < 2 ^ n := by
  suffices hh : ∀ l : List Nat, (∀ x ∈ l, x < n) → maskOf l.reverse < 2 ^ n by
    have := hh l.reverse (by simpa using h)
    rwa [List.reverse_reverse] at this
  intro l
  induction l with
  | nil => intro _; simp [maskOf]; exact Nat.pos_of_ne_zero (by simp)
  | cons x l ih =>
    intro h
    rw [List.reverse_cons, mask_snoc]
    exact Nat.or_lt_two_pow (ih fun y hy => h y (by simp [hy])) (Nat.pow_lt_pow_right (by decide) (h x (by simp)))
theorem bit_of (m k : Nat) : (m / 2 ^ k) &&& 1 = if m.testBit k then 1 else 0 := by
  rw [Nat.and_one_is_mod, Nat.testBit_eq_decide_div_mod_eq]
  by_cases h : m / 2 ^ k % 2 = 1
  · simp [h]
  · simp [h]; omega
end Go.Gr
