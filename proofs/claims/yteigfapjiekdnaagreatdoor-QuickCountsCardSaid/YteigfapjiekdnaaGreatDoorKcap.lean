/- Merged: Bit Prm. -/
import Derived.Test.YteigfapjiekdnaaGreatDoorSxu
import Derived.Test.YteigfapjiekdnaaGreatDoorKcab
import Derived.Test.YteigfapjiekdnaaGreatDoorKcae
section
/- The engine's rules of '&', '|', '<<' on numbers from 0 on; a set of places as bits. -/
namespace Go.Sx
open Go Go.RowKit Go.Reg
theorem i64_and_nat (a b : Nat) (ha : a < 9223372036854775808) (hb : b < 9223372036854775808) : IntKind.i64.wrap ((BitVec.ofInt 64 (a : Int) &&& BitVec.ofInt 64 (b : Int)).toNat : Int) = ((a &&& b : Nat) : Int) := by
  have hx : a &&& b < 2 ^ 63 := Nat.and_lt_two_pow _ (by omega)
  have h1 : (BitVec.ofInt 64 (a : Int)).toNat = a := by rw [BitVec.ofInt_natCast, BitVec.toNat_ofNat]; exact Nat.mod_eq_of_lt (by omega)
  have h2 : (BitVec.ofInt 64 (b : Int)).toNat = b := by rw [BitVec.ofInt_natCast, BitVec.toNat_ofNat]; exact Nat.mod_eq_of_lt (by omega)
  rw [BitVec.toNat_and, h1, h2, IntKind.wrap_i64]
  omega
theorem i64_or_nat (a b : Nat) (ha : a < 9223372036854775808) (hb : b < 9223372036854775808) : IntKind.i64.wrap ((BitVec.ofInt 64 (a : Int) ||| BitVec.ofInt 64 (b : Int)).toNat : Int) = ((a ||| b : Nat) : Int) := by
  have hx : a ||| b < 2 ^ 63 := Nat.or_lt_two_pow (by omega) (by omega)
  have h1 : (BitVec.ofInt 64 (a : Int)).toNat = a := by rw [BitVec.ofInt_natCast, BitVec.toNat_ofNat]; exact Nat.mod_eq_of_lt (by omega)
  have h2 : (BitVec.ofInt 64 (b : Int)).toNat = b := by rw [BitVec.ofInt_natCast, BitVec.toNat_ofNat]; exact Nat.mod_eq_of_lt (by omega)
  rw [BitVec.toNat_or, h1, h2, IntKind.wrap_i64]
  omega
section
variable {C : Cx} {fr : Fr} {σ : Sg}
/-- 'x & y' -/
theorem op_and (a b z : Nat) (hz : a &&& b = z) {n kd : Nat} {o : Oper} {K : Fr → Sg → Prop} {t ty : Nat} {x y : Operand} (ho : o.op = .binOp .and t x y ty) (hx : ev C.Γ fr x = .d (.int .i64 (a : Int))) (hy : ev C.Γ fr y = .d (.int .i64 (b : Int))) (ha : a < 9223372036854775808) (hb : b < 9223372036854775808) (hkd : kd = 3) (hd : dstOk o.dst n = true)
    (hK : K (putF o.dst (.d (.int .i64 (z : Int))) fr) σ) : OpSem C n kd o K fr σ := by
  subst hkd hz
  refine opSem_calc (by decide) (by decide) hd fun B S w0 η φ a' w hM => ?_
  have e1 := rep_int (rd_da (ev_rep hM x) hx)
  have e2 := rep_int (rd_da (ev_rep hM y) hy)
  refine .inr ⟨_, _, hK, ?_, rd_int _ _, fun h => by cases h⟩
  simp only [execOp, ho]
  rw [e1, e2]
  refine run_v ?_
  have := i64_and_nat a b ha hb
  rw [BitVec.ofInt_natCast, BitVec.ofInt_natCast] at this
  simp [eqGuard, binOp, Op.intBits]
  exact this
/-- 'x | y' -/
theorem op_or (a b z : Nat) (hz : a ||| b = z) {n kd : Nat} {o : Oper} {K : Fr → Sg → Prop} {t ty : Nat} {x y : Operand} (ho : o.op = .binOp .or t x y ty) (hx : ev C.Γ fr x = .d (.int .i64 (a : Int))) (hy : ev C.Γ fr y = .d (.int .i64 (b : Int))) (ha : a < 9223372036854775808) (hb : b < 9223372036854775808) (hkd : kd = 3) (hd : dstOk o.dst n = true)
    (hK : K (putF o.dst (.d (.int .i64 (z : Int))) fr) σ) : OpSem C n kd o K fr σ := by
  subst hkd hz
  refine opSem_calc (by decide) (by decide) hd fun B S w0 η φ a' w hM => ?_
  have e1 := rep_int (rd_da (ev_rep hM x) hx)
  have e2 := rep_int (rd_da (ev_rep hM y) hy)
  refine .inr ⟨_, _, hK, ?_, rd_int _ _, fun h => by cases h⟩
  simp only [execOp, ho]
  rw [e1, e2]
  refine run_v ?_
  have := i64_or_nat a b ha hb
  rw [BitVec.ofInt_natCast, BitVec.ofInt_natCast] at this
  simp [eqGuard, binOp, Op.intBits]
  exact this
/-- '1 << b' -/
theorem op_bit (b : Nat) {n kd : Nat} {o : Oper} {K : Fr → Sg → Prop} {t ty : Nat} {x y : Operand} {yk : IntKind} (ho : o.op = .binOp .shl t x y ty) (hx : ev C.Γ fr x = .d (.int .i64 1)) (hy : ev C.Γ fr y = .d (.int yk (b : Int))) (hb : b ≤ 30) (hkd : kd = 3) (hd : dstOk o.dst n = true)
    (hK : K (putF o.dst (.d (.int .i64 ((2 ^ b : Nat) : Int))) fr) σ) : OpSem C n kd o K fr σ := by
  subst hkd
  refine opSem_calc (by decide) (by decide) hd fun B S w0 η φ a' w hM => ?_
  have e1 := rep_int (rd_da (ev_rep hM x) hx)
  have e2 := rep_int (rd_da (ev_rep hM y) hy)
  refine .inr ⟨_, _, hK, ?_, rd_int _ _, fun h => by cases h⟩
  simp only [execOp, ho]
  rw [e1, e2]
  refine run_v ?_
  have h1 : (2 : Nat) ^ b ≤ 2 ^ 30 := Nat.pow_le_pow_right (by decide) hb
  have h3 : ((2 ^ b : Nat) : Int) = (2 : Int) ^ b := by norm_cast
  have h2 : IntKind.i64.wrap ((2 : Int) ^ b) = (2 : Int) ^ b := by
    rw [← h3]
    generalize (2 : Nat) ^ b = q at h1
    exact wrap64_in ⟨by omega, by omega⟩
  simp [eqGuard, binOp, h2]
/-- 'x >> b' of a number from 0 on -/
theorem op_shrz (b m z : Nat) (hz : m / 2 ^ b = z) {n kd : Nat} {o : Oper} {K : Fr → Sg → Prop} {t ty : Nat} {x y : Operand} {k yk : IntKind} (ho : o.op = .binOp .shr t x y ty) (hx : ev C.Γ fr x = .d (.int k (m : Int))) (hy : ev C.Γ fr y = .d (.int yk (b : Int))) (hb : b ≤ 8) (hkd : kd = 3) (hd : dstOk o.dst n = true)
    (hK : K (putF o.dst (.d (.int k (z : Int))) fr) σ) : OpSem C n kd o K fr σ := by
  subst hz
  refine op_shr b ho hx hy hb hkd hd ?_
  have : (m : Int).fdiv (2 ^ b) = ((m / 2 ^ b : Nat) : Int) := by
    rw [Int.fdiv_eq_ediv_of_nonneg _ (Int.pow_nonneg (by decide))]
    simp
  rw [this]; exact hK
end
end Go.Sx
namespace Go.Gr
/-- places as bits -/
def maskOf (l : List Nat) : Nat := l.foldl (fun s x => s ||| 2 ^ x) 0
theorem mask_snoc (l : List Nat) (x : Nat) : maskOf (l ++ [x]) = maskOf l ||| 2 ^ x := by simp [maskOf, List.foldl_append]
theorem mask_bit (l : List Nat) (k : Nat) : (maskOf l).testBit k = decide (k ∈ l) := by
  suffices h : ∀ l : List Nat, (maskOf l.reverse).testBit k = decide (k ∈ l) by
    have := h l.reverse
    rw [List.reverse_reverse] at this
    rw [this]; simp
  intro l
  induction l with
  | nil => simp [maskOf]
  | cons x l ih =>
    rw [List.reverse_cons, mask_snoc, Nat.testBit_or, ih, Nat.testBit_two_pow]
    by_cases h : x = k
    · subst h; simp
    · simp [h, Ne.symm h]
theorem mask_lt (l : List Nat) (n : Nat) (h : ∀ x ∈ l, x < n) : maskOf l < 2 ^ n := by
  suffices hh : ∀ l : List Nat, (∀ x ∈ l, x < n) → maskOf l.reverse < 2 ^ n by
    have := hh l.reverse (by simpa using h)
    rwa [List.reverse_reverse] at this
  intro l
  induction l with
  | nil => intro _; simp [maskOf]; exact Nat.pos_of_ne_zero (by simp)
  | cons x l ih =>
    intro h
    rw [List.reverse_cons, mask_snoc]
    exact Nat.or_lt_two_pow (ih fun y hy => h y (by simp [hy])) (Nat.pow_lt_pow_right (by decide) (h x (by simp)))
theorem bit_of (m k : Nat) : (m / 2 ^ k) &&& 1 = if m.testBit k then 1 else 0 := by
  rw [Nat.and_one_is_mod, Nat.testBit_eq_decide_div_mod_eq]
  by_cases h : m / 2 ^ k % 2 = 1
  · simp [h]
  · simp [h]; omega
end Go.Gr
end

section
/- perm: Right, Put. -/
namespace Go.Proofs.YteigfapjiekdnaaGreatDoor
open Go.Sx Go.RowKit Go.Reg Go.Gr

set_option maxRecDepth 100000
def ordR (p : List Int) : Bool := decide (p.length ≤ 8) && (decide (∀ x ∈ p, 0 ≤ x ∧ x < p.length) && decide p.Nodup)
def pl_pmr : List (Nat × Plan) := []
def G_pmr : List FuncId := []
theorem cok_pmr : codeOk Tryz.prog G_pmr pl_pmr (Tryz.f156.body.getD .skip) = true := by kernel_rfl
theorem run_pmr (vs : Array Value) (w : World) : (callFunc 156 vs).run C1.P w = .ok (.enter 156 vs) w := by kernel_rfl
set_option maxHeartbeats 4000000 in
theorem permright_pure (p : List Int) (hm : p.length ≤ 9000000000000000000) : Pure C1 156 [dIs p] (fun y => y = .bool (ordR p)) := by
  have hdp : (p.map dI).length = p.length := List.length_map _
  refine pure_of c1_ok (pl := pl_pmr) (G := G_pmr) Tryz.func156 rfl Tryz.ntmps156 run_pmr cok_pmr (by simp) ?_
  by_cases h8 : 8 < p.length
  · have : ordR p = false := by unfold ordR; rw [decide_eq_false (by omega)]; rfl
    rw [this]
    ((conv => whnf); repeat' ((first | refine odw ?_ | refine ify ?_ | refine ifn ?_ | refine i6 ?_ | refine ati ?_ | refine mst ?_ | refine rmd ?_ | refine ibo (fun _ => ?_) (fun _ => ?_)) <;> conv => whnf))
    exact rfl
  · ((conv => whnf); repeat' ((first | refine odw ?_ | refine ify ?_ | refine ifn ?_ | refine i6 ?_ | refine ati ?_ | refine mst ?_ | refine rmd ?_ | refine ibo (fun _ => ?_) (fun _ => ?_)) <;> conv => whnf))
    refine loop_lo (ι := Nat) (fun i => i ≤ p.length ∧ (∀ x ∈ p.take i, 0 ≤ x ∧ x < (p.length : Int)) ∧ (p.take i).Nodup) (fun i => [(11, .d (.int .i64 i)), (10, .d (.int .i64 (p.map dI).length)), (9, .d (dIs p)), (3, .d (.int .i64 (maskOf ((p.take i).map Int.toNat) : Nat))), (0, .d (dIs p))]) (fun _ => []) (fun i => p.length - i) 0 (fun _ => rfl) ⟨Nat.zero_le _, by simp, by simp⟩ (.refl _ _) ⟨rfl, rfl, rfl, rfl, rfl, trivial⟩ trivial ?_
    rintro i ⟨hi, hr, hn⟩
    refine sxCode_sound c1_ok (G := G_pmr) (pl := pl_pmr) _ _ _ _ (by kernel_rfl) ?_
    by_cases hil : i < p.length
    · have hx := List.getElem?_eq_getElem hil
      have hxm := List.getElem_mem hil
      generalize p[i] = x at hx hxm
      have hxd : (p.map dI)[i]? = some (.int .i64 x) := by rw [List.getElem?_map, hx]; rfl
      have hno : ¬ (0 ≤ x ∧ x < (p.length : Int)) → ordR p = false := fun h => by
        unfold ordR
        rw [decide_eq_false (p := ∀ x ∈ p, 0 ≤ x ∧ x < (p.length : Int)) (fun hh => h (hh x hxm))]
        simp
      by_cases h0 : x < 0
      · rw [hno (by omega)]
        (conv => whnf)
        (repeat' ((first | refine ord_ok (by (conv => whnf); (repeat' ((first | refine at_da hxd rfl ?_ | refine ify ?_ | refine ifn ?_ | refine i6 ?_ | refine ati ?_ | refine mst ?_ | refine rmd ?_ | refine ibo (fun _ => ?_) (fun _ => ?_)) <;> conv => whnf)); (all_goals (repeat' (first | exact trivial | exact rfl | refine And.intro ?_ ?_)))) ?_ | refine at_da hxd rfl ?_ | refine ify ?_ | refine ifn ?_ | refine i6 ?_ | refine ati ?_ | refine mst ?_ | refine rmd ?_ | refine ibo (fun _ => ?_) (fun _ => ?_)) <;> conv => whnf))
        exact rfl
      by_cases h1 : (p.length : Int) ≤ x
      · rw [hno (by omega)]
        (conv => whnf)
        (repeat' ((first | refine ord_ok (by (conv => whnf); (repeat' ((first | refine at_da hxd rfl ?_ | refine ify ?_ | refine ifn ?_ | refine i6 ?_ | refine ati ?_ | refine mst ?_ | refine rmd ?_ | refine ibo (fun _ => ?_) (fun _ => ?_)) <;> conv => whnf)); (all_goals (repeat' (first | exact trivial | exact rfl | refine And.intro ?_ ?_)))) ?_ | refine at_da hxd rfl ?_ | refine ify ?_ | refine ifn ?_ | refine i6 ?_ | refine ati ?_ | refine mst ?_ | refine rmd ?_ | refine ibo (fun _ => ?_) (fun _ => ?_)) <;> conv => whnf))
        exact rfl
      obtain ⟨k, rfl⟩ := Int.eq_ofNat_of_zero_le (show 0 ≤ x by omega)
      have hm8 : maskOf ((p.take i).map Int.toNat) < 2 ^ 8 := mask_lt _ 8 (fun y hy => by
        obtain ⟨z, hz, rfl⟩ := List.mem_map.1 hy
        have := hr z hz; omega)
      have hbt : (maskOf ((p.take i).map Int.toNat)).testBit k = decide ((k : Int) ∈ p.take i) := by
        rw [mask_bit]
        congr 1
        simp only [List.mem_map, eq_iff_iff]
        constructor
        · rintro ⟨z, hz, hzk⟩
          have := hr z hz
          rw [show (k : Int) = z by omega]; exact hz
        · exact fun h => ⟨k, h, Int.toNat_natCast k⟩
      have hba := bit_of (maskOf ((p.take i).map Int.toNat)) k
      have hsn : maskOf ((p.take (i + 1)).map Int.toNat) = maskOf ((p.take i).map Int.toNat) ||| 2 ^ k := by
        rw [List.take_add_one, hx, Option.toList_some, List.map_append, List.map_cons, List.map_nil, Int.toNat_natCast, mask_snoc]
      have hdv : maskOf ((p.take i).map Int.toNat) / 2 ^ k ≤ maskOf ((p.take i).map Int.toNat) := Nat.div_le_self _ _
      have hpk : (2 : Nat) ^ k ≤ 2 ^ 8 := Nat.pow_le_pow_right (by decide) (by omega)
      generalize hM : maskOf ((p.take i).map Int.toNat) = M at *
      generalize hD : M / 2 ^ k = D at *
      obtain ⟨Z, hZ⟩ : ∃ Z, M ||| 2 ^ k = Z := ⟨_, rfl⟩
      rw [hZ] at hsn
      by_cases hc : (k : Int) ∈ p.take i
      · rw [hbt, decide_eq_true hc, if_pos rfl] at hba
        have hf : ordR p = false := by
          unfold ordR
          rw [decide_eq_false (p := p.Nodup) (fun hh => ?_)]
          · simp
          · obtain ⟨j, hj, hjk⟩ := List.mem_take_iff_getElem.1 hc
            have hj2 : j < p.length := by omega
            have := (List.getElem?_inj hj2 hh).1 ((List.getElem?_eq_getElem hj2).trans ((congrArg some hjk).trans hx.symm))
            omega
        rw [hf]
        (conv => whnf)
        (repeat' ((first | refine ord_ok (by (conv => whnf); (repeat' ((first | refine at_da hxd rfl ?_ | refine op_shrz k M D hD rfl rfl rfl (by omega) rfl rfl ?_ | refine op_and D 1 1 hba rfl rfl rfl (by omega) (by omega) rfl rfl ?_ | refine ify ?_ | refine ifn ?_ | refine i6 ?_ | refine ati ?_ | refine mst ?_ | refine rmd ?_ | refine ibo (fun _ => ?_) (fun _ => ?_)) <;> conv => whnf)); (all_goals (repeat' (first | exact trivial | exact rfl | refine And.intro ?_ ?_)))) ?_ | refine at_da hxd rfl ?_ | refine op_shrz k M D hD rfl rfl rfl (by omega) rfl rfl ?_ | refine op_and D 1 1 hba rfl rfl rfl (by omega) (by omega) rfl rfl ?_ | refine ify ?_ | refine ifn ?_ | refine i6 ?_ | refine ati ?_ | refine mst ?_ | refine rmd ?_ | refine ibo (fun _ => ?_) (fun _ => ?_)) <;> conv => whnf))
        exact rfl
      · rw [hbt, decide_eq_false hc, if_neg (by decide)] at hba
        (conv => whnf)
        (repeat' ((first | refine ord_ok (by (conv => whnf); (repeat' ((first | refine at_da hxd rfl ?_ | refine op_shrz k M D hD rfl rfl rfl (by omega) rfl rfl ?_ | refine op_and D 1 0 hba rfl rfl rfl (by omega) (by omega) rfl rfl ?_ | refine op_bit k rfl rfl rfl (by omega) rfl rfl ?_ | refine op_or M (2 ^ k) Z hZ rfl rfl rfl (by omega) (by omega) rfl rfl ?_ | refine ify ?_ | refine ifn ?_ | refine i6 ?_ | refine ati ?_ | refine mst ?_ | refine rmd ?_ | refine ibo (fun _ => ?_) (fun _ => ?_)) <;> conv => whnf)); (all_goals (repeat' (first | exact trivial | exact rfl | refine And.intro ?_ ?_)))) ?_ | refine at_da hxd rfl ?_ | refine op_shrz k M D hD rfl rfl rfl (by omega) rfl rfl ?_ | refine op_and D 1 0 hba rfl rfl rfl (by omega) (by omega) rfl rfl ?_ | refine op_bit k rfl rfl rfl (by omega) rfl rfl ?_ | refine op_or M (2 ^ k) Z hZ rfl rfl rfl (by omega) (by omega) rfl rfl ?_ | refine ify ?_ | refine ifn ?_ | refine i6 ?_ | refine ati ?_ | refine mst ?_ | refine rmd ?_ | refine ibo (fun _ => ?_) (fun _ => ?_)) <;> conv => whnf))
        refine ⟨i + 1, _, _, ⟨by omega, ?_, ?_⟩, .refl _ _, ⟨rfl, rfl, rfl, by rw [hsn]; rfl, rfl, trivial⟩, trivial, by omega⟩
        · intro y hy
          rw [List.take_add_one, hx, Option.toList_some] at hy
          rcases List.mem_append.1 hy with hy | hy
          · exact hr y hy
          · simp at hy; subst hy; omega
        · rw [List.take_add_one, hx, Option.toList_some]
          exact List.nodup_append.2 ⟨hn, by simp, fun a ha b hb e => by simp at hb; subst hb; subst e; exact hc ha⟩
    · have e : p.take i = p := List.take_of_length_le (by omega)
      rw [e] at hr hn
      have : ordR p = true := by
        unfold ordR
        rw [decide_eq_true (show p.length ≤ 8 by omega), decide_eq_true hr, decide_eq_true hn]; rfl
      rw [this]
      ((conv => whnf); repeat' ((first | refine odw ?_ | refine ify ?_ | refine ifn ?_ | refine i6 ?_ | refine ati ?_ | refine mst ?_ | refine rmd ?_ | refine ibo (fun _ => ?_) (fun _ => ?_)) <;> conv => whnf))
      exact rfl
end Go.Proofs.YteigfapjiekdnaaGreatDoor
end
