/- Scripts, plain: acts of any numbers; the first that is wrong; digits that a line ends with. -/
import Derived.Test.YtdbafjjmdgdjgaaDoorScp
namespace Go.Gr
open Go
/-- may an act be? -/
def okA (p : Int × Int) : Prop := 0 ≤ p.1 ∧ p.1 ≤ 5 ∧ 0 ≤ p.2 ∧ p.2 ≤ 999999 ∧ (3 < p.1 → p.2 = 0)
instance okA_dec (p : Int × Int) : Decidable (okA p) := by unfold okA; infer_instance
def toI (p : Nat × Nat) : Int × Int := (p.1, p.2)
theorem okA_nat {p : Int × Int} (h : okA p) : ∃ q : Nat × Nat, actOk q ∧ p = toI q := by
  obtain ⟨a, b⟩ := p
  obtain ⟨h1, h2, h3, h4, h5⟩ := h
  simp only at h1 h2 h3 h4 h5
  refine ⟨(a.toNat, b.toNat), ⟨?_, ?_, ?_⟩, ?_⟩
  · simp only; omega
  · simp only; omega
  · simp only; intro h; have := h5 (by omega); omega
  · simp only [toI, Prod.mk.injEq]; omega
theorem ok_toI {q : Nat × Nat} (h : actOk q) : okA (toI q) := by
  obtain ⟨h1, h2, h3⟩ := h
  refine ⟨?_, ?_, ?_, ?_, ?_⟩ <;> simp only [toI] <;> omega
theorem first_case : ∀ l : List (Int × Int), (∃ m : List (Nat × Nat), (∀ q ∈ m, actOk q) ∧ l = m.map toI) ∨ ∃ (m : List (Nat × Nat)) (p : Int × Int) (r : List (Int × Int)), (∀ q ∈ m, actOk q) ∧ ¬ okA p ∧ l = m.map toI ++ p :: r
  | [] => .inl ⟨[], (fun q h => (List.not_mem_nil h).elim), rfl⟩
  | p :: l => by
    by_cases hp : okA p
    · obtain ⟨q, hq, rfl⟩ := okA_nat hp
      rcases first_case l with ⟨m, hm, rfl⟩ | ⟨m, p, r, hm, hn, rfl⟩
      · exact .inl ⟨q :: m, (fun x hx => by rcases List.mem_cons.1 hx with rfl | hx; exact hq; exact hm x hx), rfl⟩
      · exact .inr ⟨q :: m, p, r, (fun x hx => by rcases List.mem_cons.1 hx with rfl | hx; exact hq; exact hm x hx), hn, rfl⟩
    · exact .inr ⟨[], p, l, (fun q h => (List.not_mem_nil h).elim), hp, rfl⟩
/-- how many are of a kind -/
def cntK (k : Int) (l : List (Int × Int)) : Nat := (l.filter fun p => decide (p.1 = k)).length
theorem cntK_app (k : Int) (a b : List (Int × Int)) : cntK k (a ++ b) = cntK k a + cntK k b := by simp [cntK]
theorem cntK_take {k : Int} {l : List (Int × Int)} {i : Nat} {p : Int × Int} (h : l[i]? = some p) : cntK k (l.take (i + 1)) = cntK k (l.take i) + if p.1 = k then 1 else 0 := by
  rw [List.take_add_one, h, cntK_app]
  by_cases e : p.1 = k <;> simp [cntK, e]
theorem cntK_le (k : Int) (l : List (Int × Int)) : cntK k l ≤ l.length := List.length_filter_le _ _
theorem cntK_no {k : Int} {m : List (Nat × Nat)} (hm : ∀ q ∈ m, actOk q) (h : k < 0 ∨ 5 < k) : cntK k (m.map toI) = 0 := by
  unfold cntK
  rw [List.length_eq_zero_iff, List.filter_eq_nil_iff]
  intro p hp
  obtain ⟨q, hq, rfl⟩ := List.mem_map.1 hp
  have := (hm q hq).1
  intro e
  have e2 : (q.1 : Int) = k := of_decide_eq_true e
  omega
def sumK : Nat → List (Int × Int) → Nat
  | 0, _ => 0
  | n + 1, l => sumK n l + cntK ((n : Int) - 1) l
theorem sumK_app : ∀ (n : Nat) (a b : List (Int × Int)), sumK n (a ++ b) = sumK n a + sumK n b
  | 0, _, _ => rfl
  | n + 1, a, b => by simp only [sumK, sumK_app n a b, cntK_app]; omega
theorem sumK_one : ∀ (n : Nat) (q : Nat × Nat), sumK n [toI q] = if q.1 + 1 < n then 1 else 0
  | 0, q => by simp [sumK]
  | n + 1, q => by
    have e : cntK ((n : Int) - 1) [toI q] = if q.1 + 1 = n then 1 else 0 := by
      by_cases h : q.1 + 1 = n
      · rw [if_pos h]
        have : (q.1 : Int) = (n : Int) - 1 := by omega
        simp [cntK, toI, this]
      · rw [if_neg h]
        have : ¬ (q.1 : Int) = (n : Int) - 1 := by omega
        simp [cntK, toI, this]
    simp only [sumK, sumK_one n q, e]
    split <;> split <;> split <;> omega
theorem sumK_all : ∀ {m : List (Nat × Nat)}, (∀ q ∈ m, actOk q) → sumK 8 (m.map toI) = m.length
  | [], _ => rfl
  | q :: m, h => by
    have h1 := sumK_all (m := m) (fun x hx => h x (.tail _ hx))
    have h2 := (h q (.head _)).1
    rw [List.map_cons, ← List.singleton_append, sumK_app, h1, sumK_one, if_pos (by omega), List.length_cons]; omega
theorem sumK_le : ∀ (n : Nat) (l : List (Int × Int)), sumK n l ≤ n * l.length
  | 0, _ => Nat.zero_le _
  | n + 1, l => by
    have h1 := sumK_le n l
    have h2 := cntK_le ((n : Int) - 1) l
    simp only [sumK, Nat.add_mul, Nat.one_mul]; omega
/-- a digit -/
def isD (c : UInt8) : Prop := 48 ≤ c.toNat ∧ c.toNat ≤ 57
/-- the digits, six at most, that a line ends with -/
def Tl (b t : List UInt8) : Prop := ∃ f, b = f ++ t ∧ (∀ c ∈ t, isD c) ∧ t.length ≤ 6 ∧ (t.length = 6 ∨ f = [] ∨ ∃ g c, f = g ++ [c] ∧ ¬ isD c)
theorem tl_val {b t : List UInt8} {p : Nat × Nat} (h : IsAct b p) (ht : Tl b t) (hp : p.1 < 4) : val t = p.2 := by
  obtain ⟨⟨_, h2, _⟩, h4⟩ := h
  obtain ⟨f, rfl, hd, hl, hend⟩ := ht
  unfold lnB at h4
  rw [if_pos hp, show nmB p.1 ++ 32 :: Lib.decDigits p.2 = (nmB p.1 ++ [32]) ++ Lib.decDigits p.2 by simp] at h4
  have h6 := dd_len6 p.2 h2
  rcases List.append_eq_append_iff.1 h4 with ⟨a, h7, h8⟩ | ⟨a, h7, h8⟩
  · rcases List.eq_nil_or_concat a with rfl | ⟨a', x, rfl⟩
    · rw [List.nil_append] at h8
      rw [h8, val_dd]
    · exfalso
      have e : x = 32 := by
        have := congrArg List.getLast? h7
        simp at this
        exact this.symm
      subst e
      have := hd 32 (by rw [h8]; simp)
      exact absurd this.1 (by decide)
  · rcases List.eq_nil_or_concat a with rfl | ⟨a', x, rfl⟩
    · rw [List.nil_append] at h8
      rw [← h8, val_dd]
    · exfalso
      have hx : isD x := dd_digit p.2 x (by rw [h8]; simp)
      rcases hend with h9 | h9 | ⟨g, c, h9, hc⟩
      · have := congrArg List.length h8
        simp at this
        omega
      · rw [h7] at h9; simp at h9
      · rw [h7] at h9
        rw [List.concat_eq_append, ← List.append_assoc] at h9
        have := List.cons.inj (List.append_inj' h9 rfl).2
        rw [this.1] at hx
        exact hc hx
theorem val_lt : ∀ {t : List UInt8}, (∀ c ∈ t, isD c) → val t < 10 ^ t.length
  | [], _ => by simp [val]
  | c :: t, h => by
    have h1 := val_lt (t := t) (fun x hx => h x (.tail _ hx))
    have h2 := h c (.head _)
    unfold isD at h2
    simp only [val, List.length_cons, Nat.pow_succ]
    have h3 : (c.toNat - 48) * 10 ^ t.length ≤ 9 * 10 ^ t.length := Nat.mul_le_mul_right _ (by omega)
    omega
theorem pow6 {n : Nat} (h : n ≤ 6) : 10 ^ n ≤ 1000000 := Nat.pow_le_pow_right (by omega) h
theorem val6 {t : List UInt8} (h : ∀ c ∈ t, isD c) (hl : t.length ≤ 6) : val t ≤ 999999 := by
  have h1 := val_lt h
  have h2 := pow6 hl
  omega
/-- what the document's lines are -/
theorem isAct_kind {b t : List UInt8} {p : Nat × Nat} (h : IsAct b p) (ht : Tl b t) : p = (p.1, if p.1 < 4 then val t else 0) := by
  obtain ⟨k, n⟩ := p
  by_cases hk : k < 4
  · simp only [if_pos hk, tl_val h ht hk]
  · have := h.1.2.2 (by simp only; omega)
    simp only [if_neg hk] at *
    rw [this]
theorem isAct_of {b t : List UInt8} {k : Nat} (hk : k < 6) (ht : Tl b t) (h : lnB k (if k < 4 then val t else 0) = b) : IsAct b (k, if k < 4 then val t else 0) := by
  obtain ⟨f, _, hd, hl, _⟩ := ht
  refine ⟨⟨hk, ?_, ?_⟩, h.symm⟩
  · have := val6 hd hl
    simp only; split <;> omega
  · simp only; intro h; rw [if_neg (by omega)]
end Go.Gr
