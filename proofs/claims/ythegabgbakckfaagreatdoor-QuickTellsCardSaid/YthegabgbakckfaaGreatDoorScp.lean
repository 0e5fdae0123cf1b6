/- Scripts, plain: bytes, words, lines, texts; what a text's parse is. -/
import Derived.Lib.ItoaNum
import Derived.Lib.AtoiAll
import Derived.Lib.IndexMore
namespace Go.Gr
open Go
/-- a string of bytes -/
def bs (l : List UInt8) : ByteArray := ⟨l.toArray⟩
theorem bs_cat (a b : List UInt8) : bs a ++ bs b = bs (a ++ b) := by
  apply ByteArray.ext
  rw [ByteArray.data_append]
  simp [bs]
theorem bs_size (a : List UInt8) : (bs a).size = a.length := by simp [bs, ByteArray.size]
theorem bs_inj {a b : List UInt8} (h : bs a = bs b) : a = b := by
  have := congrArg (fun x : ByteArray => x.data.toList) h
  simpa [bs] using this
theorem bs_of (s : ByteArray) : s = bs s.data.toList := by
  apply ByteArray.ext
  simp [bs]
theorem bs_cut (a : List UInt8) (l m : Nat) : (bs a).extract l m = bs ((a.take m).drop l) := by
  apply ByteArray.ext
  rw [ByteArray.data_extract]
  apply Array.toList_inj.1
  simp [bs, List.extract_eq_take_drop, List.drop_take]
theorem dd_len : ∀ n : Nat, (Lib.decDigits n).length ≤ n + 1 := by
  intro n
  induction n using Nat.strongRecOn with
  | _ n ih =>
    rw [Lib.decDigits]
    split
    · simp
    · have := ih (n / 10) (by omega)
      rw [List.length_append, List.length_singleton]; omega
/-- words of kinds -/
def nmB : Nat → List UInt8
  | 0 => [119, 111, 114, 107]
  | 1 => [100, 101, 108, 105, 118, 101, 114]
  | 2 => [100, 111, 117, 98, 108, 101]
  | 3 => [99, 114, 97, 115, 104]
  | 4 => [112, 97, 115, 115]
  | _ => [102, 105, 110, 105, 115, 104]
/-- the line of an act, without its end -/
def lnB (k n : Nat) : List UInt8 := if k < 4 then nmB k ++ 32 :: Lib.decDigits n else nmB k

theorem idx_sep (c : UInt8) (r : List UInt8) : ∀ a : List UInt8, c ∉ a → Lib.index (a ++ c :: r) [c] = a.length
  | [], _ => by simp [Lib.index, List.isPrefixOf]
  | b :: a, h => by
    have h1 : ¬ c = b := fun e => h (e ▸ .head _)
    have ih := idx_sep c r a (fun e => h (.tail _ e))
    rw [List.cons_append, Lib.index, ih]
    have h2 : ((a.length : Int) == -1) = false := by rw [beq_eq_false_iff_ne]; omega
    simp [List.isPrefixOf, h1, h2]
theorem idx_none (c : UInt8) : ∀ a : List UInt8, c ∉ a → Lib.index a [c] = -1
  | [], _ => by simp [Lib.index]
  | b :: a, h => by
    have h1 : ¬ c = b := fun e => h (e ▸ .head _)
    have ih := idx_none c a (fun e => h (.tail _ e))
    rw [Lib.index, ih]
    simp [List.isPrefixOf, h1]
theorem cut_sep (c : UInt8) (a r : List UInt8) (h : c ∉ a) : Lib.cut (a ++ c :: r) [c] = (a, r, true) := by
  unfold Lib.cut
  rw [idx_sep c r a h, if_pos (by omega)]
  simp
theorem cut_none (c : UInt8) (a : List UInt8) (h : c ∉ a) : Lib.cut a [c] = (a, [], false) := by
  unfold Lib.cut
  rw [idx_none c a h, if_neg (by omega)]
theorem sep_case (c : UInt8) (s : List UInt8) : c ∉ s ∨ ∃ a r, c ∉ a ∧ s = a ++ c :: r := by
  by_cases h : c ∈ s
  · obtain ⟨a, r, h1, h2⟩ := List.eq_append_cons_of_mem h
    exact .inr ⟨a, r, h2, h1⟩
  · exact .inl h
theorem sep_uniq {c : UInt8} {a r a' r' : List UInt8} (h : c ∉ a) (h' : c ∉ a') (e : a ++ c :: r = a' ++ c :: r') : a = a' ∧ r = r' := by
  have := congrArg (fun x => Lib.cut x [c]) e
  simp only [cut_sep c _ _ h, cut_sep c _ _ h', Prod.mk.injEq, and_true] at this
  exact this
theorem dd_ofNat {n : Nat} (h : n < 10) : (UInt8.ofNat (48 + n)).toNat = 48 + n := by
  rw [UInt8.toNat_ofNat']; omega
theorem dd_digit : ∀ n : Nat, ∀ c ∈ Lib.decDigits n, 48 ≤ c.toNat ∧ c.toNat ≤ 57 := by
  intro n
  induction n using Nat.strongRecOn with
  | _ n ih =>
    intro c hc
    rw [Lib.decDigits] at hc
    split at hc
    · rw [List.mem_singleton] at hc
      rw [hc, dd_ofNat (by omega)]; omega
    · rcases List.mem_append.1 hc with h | h
      · exact ih (n / 10) (by omega) c h
      · rw [List.mem_singleton] at h
        rw [h, dd_ofNat (by omega)]; omega
theorem dd_ne (n : Nat) : Lib.decDigits n ≠ [] := by
  rw [Lib.decDigits]
  split <;> simp
/-- the number that digits tell -/
def val : List UInt8 → Nat
  | [] => 0
  | c :: l => (c.toNat - 48) * 10 ^ l.length + val l
theorem val_app (c : UInt8) : ∀ l : List UInt8, val (l ++ [c]) = val l * 10 + (c.toNat - 48)
  | [] => by simp [val]
  | d :: l => by
    simp only [List.cons_append, val, val_app c l, List.length_append, List.length_singleton, Nat.pow_succ]
    rw [Nat.add_mul, Nat.mul_assoc, Nat.add_assoc]
theorem val_dd : ∀ n : Nat, val (Lib.decDigits n) = n := by
  intro n
  induction n using Nat.strongRecOn with
  | _ n ih =>
    rw [Lib.decDigits]
    split
    · simp only [val, List.length_nil, dd_ofNat (by omega : n < 10)]; omega
    · rw [val_app, ih (n / 10) (by omega), dd_ofNat (by omega)]; omega
theorem dd_len6 (n : Nat) (h : n ≤ 999999) : (Lib.decDigits n).length ≤ 6 := by
  rw [Lib.decDigits_length]
  rcases Nat.lt_or_ge 6 (Lib.nDigits n) with h1 | h1
  · exfalso
    have h2 : ∀ k m : Nat, k < Lib.nDigits m → 10 ^ k ≤ m ∨ k = 0 := by
      intro k
      induction k with
      | zero => intro m _; exact .inr rfl
      | succ k ih =>
        intro m hm
        left
        by_cases h10 : m < 10
        · rw [Lib.nDigits_small h10] at hm; omega
        · rw [Lib.nDigits_big h10] at hm
          rcases ih (m / 10) (by omega) with h3 | h3
          · rw [Nat.pow_succ]
            have := Nat.mul_le_mul_right 10 h3
            omega
          · subst h3; omega
    rcases h2 6 n h1 with h3 | h3
    · omega
    · omega
  · exact h1
theorem pu_app : ∀ (a : List UInt8) (acc u : Nat) (c : UInt8), Lib.parseUint10 acc a = .ok u → 48 ≤ c.toNat → c.toNat ≤ 57 → u < 100000000000000000 → Lib.parseUint10 acc (a ++ [c]) = .ok (u * 10 + (c.toNat - 48))
  | [], acc, u, c, h, h1, h2, h3 => by
    simp only [Lib.parseUint10] at h
    injection h with h
    subst h
    simp only [List.nil_append, Lib.parseUint10]
    rw [if_pos ⟨h1, h2⟩, if_neg (by omega), if_neg (by omega)]
  | d :: a, acc, u, c, h, h1, h2, h3 => by
    simp only [List.cons_append, Lib.parseUint10] at h ⊢
    by_cases g1 : 48 ≤ d.toNat ∧ d.toNat ≤ 57
    · rw [if_pos g1] at h ⊢
      by_cases g2 : 1844674407370955162 ≤ acc
      · rw [if_pos g2] at h; cases h
      · rw [if_neg g2] at h ⊢
        by_cases g3 : 18446744073709551616 ≤ acc * 10 + (d.toNat - 48)
        · rw [if_pos g3] at h; cases h
        · rw [if_neg g3] at h ⊢
          exact pu_app a _ u c h h1 h2 h3
    · rw [if_neg g1] at h; cases h
theorem pu_dd : ∀ n : Nat, n < 100000000000000000 → Lib.parseUint10 0 (Lib.decDigits n) = .ok n := by
  intro n
  induction n using Nat.strongRecOn with
  | _ n ih =>
    intro hn
    rw [Lib.decDigits]
    split
    · rename_i h
      simp only [Lib.parseUint10, dd_ofNat h]
      rw [if_pos (by omega), if_neg (by omega), if_neg (by omega)]
      congr 1; omega
    · have h := pu_app _ 0 _ (UInt8.ofNat (48 + n % 10)) (ih (n / 10) (by omega) (by omega)) (by rw [dd_ofNat (by omega)]; omega) (by rw [dd_ofNat (by omega)]; omega) (by omega)
      rw [h, dd_ofNat (by omega)]
      congr 1; omega
theorem atoi_dd (n : Nat) (h : n ≤ 999999) : Lib.atoiAll (Lib.decDigits n) = .ok (n : Int) := by
  have h1 := pu_dd n (by omega)
  have h2 := dd_digit n
  cases hl : Lib.decDigits n with
  | nil => exact absurd hl (dd_ne n)
  | cons c r =>
    rw [hl] at h1 h2
    have h3 := h2 c (.head _)
    have h4 : Lib.parseMag (c :: r) = .ok n := by
      unfold Lib.parseMag
      rw [if_neg (by simp), h1]
    simp only [Lib.atoiAll]
    rw [if_neg (by omega), h4]
    simp only
    rw [if_neg (by omega), if_neg (by omega), if_neg (by omega)]

/-- acts that are right -/
def actOk (p : Nat × Nat) : Prop := p.1 < 6 ∧ p.2 ≤ 999999 ∧ (3 < p.1 → p.2 = 0)
def IsAct (b : List UInt8) (p : Nat × Nat) : Prop := actOk p ∧ b = lnB p.1 p.2
def textB : List (Nat × Nat) → List UInt8
  | [] => []
  | p :: l => lnB p.1 p.2 ++ 10 :: textB l
theorem nmB_no (k : Nat) : 10 ∉ nmB k ∧ 32 ∉ nmB k ∧ nmB k ≠ [] := by
  rcases k with _ | _ | _ | _ | _ | k <;> (simp only [nmB]; decide)
theorem nmB_inj {k m : Nat} (hk : k < 6) (hm : m < 6) (h : nmB k = nmB m) : k = m := by
  obtain rfl | rfl | rfl | rfl | rfl | rfl : k = 0 ∨ k = 1 ∨ k = 2 ∨ k = 3 ∨ k = 4 ∨ k = 5 := by omega
  all_goals (obtain rfl | rfl | rfl | rfl | rfl | rfl : m = 0 ∨ m = 1 ∨ m = 2 ∨ m = 3 ∨ m = 4 ∨ m = 5 := by omega) <;> first | rfl | (exact absurd h (by decide))
theorem lnB_no (k n : Nat) : 10 ∉ lnB k n := by
  unfold lnB
  split
  · intro h
    rcases List.mem_append.1 h with h | h
    · exact (nmB_no k).1 h
    · rcases List.mem_cons.1 h with h | h
      · exact absurd h (by decide)
      · exact absurd (dd_digit n _ h).1 (by decide)
  · exact (nmB_no k).1
theorem lnB_ne (k n : Nat) : lnB k n ≠ [] := by
  unfold lnB
  split
  · simp
  · exact (nmB_no k).2.2
theorem isAct_uniq {b : List UInt8} {p q : Nat × Nat} (hp : IsAct b p) (hq : IsAct b q) : p = q := by
  obtain ⟨⟨h1, h2, h3⟩, h4⟩ := hp
  obtain ⟨⟨g1, g2, g3⟩, g4⟩ := hq
  obtain ⟨k, n⟩ := p
  obtain ⟨l, m⟩ := q
  simp only at *
  have e := h4.symm.trans g4
  unfold lnB at e
  by_cases hk : k < 4
  · by_cases hl : l < 4
    · rw [if_pos hk, if_pos hl] at e
      obtain ⟨e1, e2⟩ := sep_uniq (nmB_no k).2.1 (nmB_no l).2.1 e
      have e3 := congrArg val e2
      rw [val_dd, val_dd] at e3
      rw [nmB_inj h1 g1 e1, e3]
    · rw [if_pos hk, if_neg hl] at e
      exact absurd (e ▸ List.mem_append_right _ (.head _)) (nmB_no l).2.1
  · by_cases hl : l < 4
    · rw [if_neg hk, if_pos hl] at e
      exact absurd (e ▸ List.mem_append_right _ (.head _)) (nmB_no k).2.1
    · rw [if_neg hk, if_neg hl] at e
      rw [nmB_inj h1 g1 e, h3 (by omega), g3 (by omega)]
/-- what a text's parse is: its acts ahead of the first line that is none; is there no such line? -/
inductive Pars : List UInt8 → List (Nat × Nat) → Bool → Prop
  | nil : Pars [] [] true
  | line {b : List UInt8} {p : Nat × Nat} {r : List UInt8} {l : List (Nat × Nat)} {ok : Bool} : IsAct b p → Pars r l ok → Pars (b ++ 10 :: r) (p :: l) ok
  | bad {b r : List UInt8} : 10 ∉ b → (∀ p, ¬ IsAct b p) → Pars (b ++ 10 :: r) [] false
  | last {b : List UInt8} : 10 ∉ b → b ≠ [] → Pars b [] false
theorem isAct_no {b : List UInt8} {p : Nat × Nat} (h : IsAct b p) : 10 ∉ b := by rw [h.2]; exact lnB_no _ _
theorem pars_det {s : List UInt8} {l l' : List (Nat × Nat)} {ok ok' : Bool} (h : Pars s l ok) (h' : Pars s l' ok') : l = l' ∧ ok = ok' := by
  induction h generalizing l' ok' with
  | nil =>
    generalize hs : ([] : List UInt8) = s at h'
    cases h' with
    | nil => exact ⟨rfl, rfl⟩
    | line _ _ => simp at hs
    | bad _ _ => simp at hs
    | last _ h => exact absurd hs.symm h
  | @line b p r l ok ha _ ih =>
    generalize hs : b ++ 10 :: r = s at h'
    cases h' with
    | nil => simp at hs
    | line hb hr =>
      obtain ⟨e1, e2⟩ := sep_uniq (isAct_no ha) (isAct_no hb) hs
      subst e1 e2
      obtain ⟨e3, e4⟩ := ih hr
      rw [isAct_uniq ha hb, e3, e4]
      exact ⟨rfl, rfl⟩
    | bad hb hn =>
      obtain ⟨e1, e2⟩ := sep_uniq (isAct_no ha) hb hs
      subst e1
      exact absurd ha (hn _)
    | last hn _ => exact absurd (hs ▸ List.mem_append_right _ (.head _)) hn
  | @bad b r hb hn =>
    generalize hs : b ++ 10 :: r = s at h'
    cases h' with
    | nil => simp at hs
    | line hb' hr =>
      obtain ⟨e1, e2⟩ := sep_uniq hb (isAct_no hb') hs
      subst e1
      exact absurd hb' (hn _)
    | bad _ _ => exact ⟨rfl, rfl⟩
    | last hn' _ => exact absurd (hs ▸ List.mem_append_right _ (.head _)) hn'
  | @last b hb hn =>
    generalize hs : b = s at h'
    cases h' with
    | nil => exact absurd hs hn
    | line _ _ => exact absurd (hs ▸ List.mem_append_right _ (.head _)) hb
    | bad _ _ => exact ⟨rfl, rfl⟩
    | last _ _ => exact ⟨rfl, rfl⟩
theorem pars_inv {s : List UInt8} {l : List (Nat × Nat)} {ok : Bool} (h : Pars s l ok) : (∀ p ∈ l, actOk p) ∧ (ok = true → s = textB l) := by
  induction h with
  | nil => exact ⟨fun p h => (List.not_mem_nil h).elim, fun _ => rfl⟩
  | line ha _ ih =>
    refine ⟨fun q hq => ?_, fun e => ?_⟩
    · rcases List.mem_cons.1 hq with rfl | hq
      · exact ha.1
      · exact ih.1 q hq
    · rw [ih.2 e, ha.2]; rfl
  | bad _ _ => exact ⟨fun p h => (List.not_mem_nil h).elim, fun h => by cases h⟩
  | last _ _ => exact ⟨fun p h => (List.not_mem_nil h).elim, fun h => by cases h⟩
theorem pars_text {t : List UInt8} {l' : List (Nat × Nat)} {ok : Bool} (h : Pars t l' ok) : ∀ l : List (Nat × Nat), (∀ p ∈ l, actOk p) → Pars (textB l ++ t) (l ++ l') ok
  | [], _ => h
  | p :: l, hl => by
    have := Pars.line (b := lnB p.1 p.2) (p := p) ⟨hl p (.head _), rfl⟩ (pars_text h l (fun q hq => hl q (.tail _ hq)))
    simpa only [textB, List.append_assoc, List.cons_append] using this
theorem textB_app (l m : List (Nat × Nat)) : textB (l ++ m) = textB l ++ textB m := by
  induction l with
  | nil => rfl
  | cons p l ih => simp only [List.cons_append, textB, ih, List.append_assoc]
theorem pars_all (l : List (Nat × Nat)) (hl : ∀ p ∈ l, actOk p) : Pars (textB l) l true := by
  have := pars_text .nil l hl
  simpa using this
theorem textB_len : ∀ l : List (Nat × Nat), (∀ p ∈ l, actOk p) → (textB l).length ≤ 15 * l.length
  | [], _ => Nat.le_refl _
  | p :: l, hl => by
    have h1 := textB_len l (fun q hq => hl q (.tail _ hq))
    have h2 := dd_len6 p.2 (hl p (.head _)).2.1
    have h3 : ∀ k, (nmB k).length ≤ 7 := by
      intro k
      rcases k with _ | _ | _ | _ | _ | k <;> (simp only [nmB]; decide)
    have h4 := h3 p.1
    have h5 : (lnB p.1 p.2).length ≤ 14 := by
      unfold lnB
      split
      · rw [List.length_append, List.length_cons]; omega
      · omega
    simp only [textB, List.length_append, List.length_cons]
    omega
/-- lines that are none -/
def badB : Nat → List UInt8
  | 0 => []
  | 1 => [119, 111, 114, 107]
  | 2 => [112, 97, 115, 115, 32, 48]
  | 3 => [100, 101, 108, 105, 118, 101, 114, 32, 48, 48]
  | 4 => [99, 114, 97, 115, 104, 32, 49, 50, 51, 52, 53, 54, 55]
  | _ => [32, 112, 97, 115, 115]
theorem badB_no (i : Nat) : 10 ∉ badB i := by
  rcases i with _ | _ | _ | _ | _ | i <;> (simp only [badB]; decide)
theorem badB_bad (i : Nat) (p : Nat × Nat) : ¬ IsAct (badB i) p := by
  obtain ⟨k, n⟩ := p
  rintro ⟨⟨h1, h2, h3⟩, h4⟩
  simp only at h1 h2 h3 h4
  have e2 : [48, 48] ≠ Lib.decDigits n := by
    intro h
    have := congrArg val h
    rw [val_dd] at this
    have e : n = 0 := by rw [← this]; rfl
    subst e
    rw [Lib.decDigits_one (by omega)] at h
    cases h
  have e3 : [49, 50, 51, 52, 53, 54, 55] ≠ Lib.decDigits n := by
    intro h
    have := dd_len6 n h2
    rw [← h] at this
    simp at this
  obtain rfl | rfl | rfl | rfl | rfl | rfl : k = 0 ∨ k = 1 ∨ k = 2 ∨ k = 3 ∨ k = 4 ∨ k = 5 := by omega
  all_goals (rcases i with _ | _ | _ | _ | _ | i <;> first | (simp [badB, lnB, nmB] at h4; done) | (simp [badB, lnB, nmB] at h4; exact e2 h4) | (simp [badB, lnB, nmB] at h4; exact e3 h4))
theorem pars_bad (l : List (Nat × Nat)) (hl : ∀ p ∈ l, actOk p) (i : Nat) (t : List UInt8) : Pars (textB l ++ (badB i ++ 10 :: t)) l false := by
  have := pars_text (.bad (r := t) (badB_no i) (badB_bad i)) l hl
  rwa [List.append_nil] at this
theorem pars_open (l : List (Nat × Nat)) (hl : ∀ p ∈ l, actOk p) (hne : l ≠ []) : Pars ((textB l).take ((textB l).length - 1)) (l.take (l.length - 1)) false := by
  obtain ⟨m, p, rfl⟩ : ∃ m p, l = m ++ [p] := ⟨l.dropLast, l.getLast hne, (List.dropLast_concat_getLast hne).symm⟩
  have h1 := pars_text (.last (lnB_no p.1 p.2) (lnB_ne p.1 p.2)) m (fun q hq => hl q (List.mem_append_left _ hq))
  have e : textB (m ++ [p]) = (textB m ++ lnB p.1 p.2) ++ [10] := by rw [textB_app, List.append_assoc]; rfl
  rw [e, List.take_left' (by simp), List.take_left' (by simp)]
  rwa [List.append_nil] at h1
end Go.Gr
