/- Merged: Scp Str Num Gvr Ptx. -/
import Derived.Lib.ItoaNum
import Derived.Lib.AtoiAll
import Derived.Lib.IndexMore
import Derived.Test.YthegabgbakckfaaGreatDoorSxu
import Derived.Test.YthegabgbakckfaaGreatDoorCtx
import Derived.Lib.LaidTab
import Derived.Test.YthegabgbakckfaaGreatDoorLst
import Derived.Test.YthegabgbakckfaaGreatDoorZpa
import Derived.Lib.Join
section
/- Scripts, plain: bytes, words, lines, texts; what a text's parse is. -/
namespace Go.Gr
open Go
/-- a string of bytes -/
def bs (l : List UInt8) : ByteArray := ⟨l.toArray⟩
theorem bs_cat (a b : List UInt8) : bs a ++ bs b = bs (a ++ b) := by
  apply ByteArray.ext
  rw [ByteArray.data_append]
  simp [bs]
theorem bs_size (a : List UInt8) : (bs a).size = a.length := by simp [bs, ByteArray.size]
theorem bs_inj {a b : List UInt8} (h : bs a = bs b) : a = b := by
  have := congrArg (fun x : ByteArray => x.data.toList) h
  simpa [bs] using this
theorem bs_of (s : ByteArray) : s = bs s.data.toList := by
  apply ByteArray.ext
  simp [bs]
theorem bs_cut (a : List UInt8) (l m : Nat) : (bs a).extract l m = bs ((a.take m).drop l) := by
  apply ByteArray.ext
  rw [ByteArray.data_extract]
  apply Array.toList_inj.1
  simp [bs, List.extract_eq_take_drop, List.drop_take]
theorem dd_len : ∀ n : Nat, (Lib.decDigits n).length ≤ n + 1 := by
  intro n
  induction n using Nat.strongRecOn with
  | _ n ih =>
    rw [Lib.decDigits]
    split
    · simp
    · have := ih (n / 10) (by omega)
      rw [List.length_append, List.length_singleton]; omega
/-- words of kinds -/
def nmB : Nat → List UInt8
  | 0 => [119, 111, 114, 107]
  | 1 => [100, 101, 108, 105, 118, 101, 114]
  | 2 => [100, 111, 117, 98, 108, 101]
  | 3 => [99, 114, 97, 115, 104]
  | 4 => [112, 97, 115, 115]
  | _ => [102, 105, 110, 105, 115, 104]
/-- the line of an act, without its end -/
def lnB (k n : Nat) : List UInt8 := if k < 4 then nmB k ++ 32 :: Lib.decDigits n else nmB k

theorem idx_sep (c : UInt8) (r : List UInt8) : ∀ a : List UInt8, c ∉ a → Lib.index (a ++ c :: r) [c] = a.length
  | [], _ => by simp [Lib.index, List.isPrefixOf]
  | b :: a, h => by
    have h1 : ¬ c = b := fun e => h (e ▸ .head _)
    have ih := idx_sep c r a (fun e => h (.tail _ e))
    rw [List.cons_append, Lib.index, ih]
    have h2 : ((a.length : Int) == -1) = false := by rw [beq_eq_false_iff_ne]; omega
    simp [List.isPrefixOf, h1, h2]
theorem idx_none (c : UInt8) : ∀ a : List UInt8, c ∉ a → Lib.index a [c] = -1
  | [], _ => by simp [Lib.index]
  | b :: a, h => by
    have h1 : ¬ c = b := fun e => h (e ▸ .head _)
    have ih := idx_none c a (fun e => h (.tail _ e))
    rw [Lib.index, ih]
    simp [List.isPrefixOf, h1]
theorem cut_sep (c : UInt8) (a r : List UInt8) (h : c ∉ a) : Lib.cut (a ++ c :: r) [c] = (a, r, true) := by
  unfold Lib.cut
  rw [idx_sep c r a h, if_pos (by omega)]
  simp
theorem cut_none (c : UInt8) (a : List UInt8) (h : c ∉ a) : Lib.cut a [c] = (a, [], false) := by
  unfold Lib.cut
  rw [idx_none c a h, if_neg (by omega)]
theorem sep_case (c : UInt8) (s : List UInt8) : c ∉ s ∨ ∃ a r, c ∉ a ∧ s = a ++ c :: r := by
  by_cases h : c ∈ s
  · obtain ⟨a, r, h1, h2⟩ := List.eq_append_cons_of_mem h
    exact .inr ⟨a, r, h2, h1⟩
  · exact .inl h
theorem sep_uniq {c : UInt8} {a r a' r' : List UInt8} (h : c ∉ a) (h' : c ∉ a') (e : a ++ c :: r = a' ++ c :: r') : a = a' ∧ r = r' := by
  have := congrArg (fun x => Lib.cut x [c]) e
  simp only [cut_sep c _ _ h, cut_sep c _ _ h', Prod.mk.injEq, and_true] at this
  exact this
theorem dd_ofNat {n : Nat} (h : n < 10) : (UInt8.ofNat (48 + n)).toNat = 48 + n := by
  rw [UInt8.toNat_ofNat']; omega
theorem dd_digit : ∀ n : Nat, ∀ c ∈ Lib.decDigits n, 48 ≤ c.toNat ∧ c.toNat ≤ 57 := by
  intro n
  induction n using Nat.strongRecOn with
  | _ n ih =>
    intro c hc
    rw [Lib.decDigits] at hc
    split at hc
    · rw [List.mem_singleton] at hc
      rw [hc, dd_ofNat (by omega)]; omega
    · rcases List.mem_append.1 hc with h | h
      · exact ih (n / 10) (by omega) c h
      · rw [List.mem_singleton] at h
        rw [h, dd_ofNat (by omega)]; omega
theorem dd_ne (n : Nat) : Lib.decDigits n ≠ [] := by
  rw [Lib.decDigits]
  split <;> simp
/-- the number that digits tell -/
def val : List UInt8 → Nat
  | [] => 0
  | c :: l => (c.toNat - 48) * 10 ^ l.length + val l
theorem val_app (c : UInt8) : ∀ l : List UInt8, val (l ++ [c]) = val l * 10 + (c.toNat - 48)
  | [] => by simp [val]
  | d :: l => by
    simp only [List.cons_append, val, val_app c l, List.length_append, List.length_singleton, Nat.pow_succ]
    rw [Nat.add_mul, Nat.mul_assoc, Nat.add_assoc]
theorem val_dd : ∀ n : Nat, val (Lib.decDigits n) = n := by
  intro n
  induction n using Nat.strongRecOn with
  | _ n ih =>
    rw [Lib.decDigits]
    split
    · simp only [val, List.length_nil, dd_ofNat (by omega : n < 10)]; omega
    · rw [val_app, ih (n / 10) (by omega), dd_ofNat (by omega)]; omega
theorem dd_len6 (n : Nat) (h : n ≤ 999999) : (Lib.decDigits n).length ≤ 6 := by
  rw [Lib.decDigits_length]
  rcases Nat.lt_or_ge 6 (Lib.nDigits n) with h1 | h1
  · exfalso
    have h2 : ∀ k m : Nat, k < Lib.nDigits m → 10 ^ k ≤ m ∨ k = 0 := by
      intro k
      induction k with
      | zero => intro m _; exact .inr rfl
      | succ k ih =>
        intro m hm
        left
        by_cases h10 : m < 10
        · rw [Lib.nDigits_small h10] at hm; omega
        · rw [Lib.nDigits_big h10] at hm
          rcases ih (m / 10) (by omega) with h3 | h3
          · rw [Nat.pow_succ]
            have := Nat.mul_le_mul_right 10 h3
            omega
          · subst h3; omega
    rcases h2 6 n h1 with h3 | h3
    · omega
    · omega
  · exact h1
theorem pu_app : ∀ (a : List UInt8) (acc u : Nat) (c : UInt8), Lib.parseUint10 acc a = .ok u → 48 ≤ c.toNat → c.toNat ≤ 57 → u < 100000000000000000 → Lib.parseUint10 acc (a ++ [c]) = .ok (u * 10 + (c.toNat - 48))
  | [], acc, u, c, h, h1, h2, h3 => by
    simp only [Lib.parseUint10] at h
    injection h with h
    subst h
    simp only [List.nil_append, Lib.parseUint10]
    rw [if_pos ⟨h1, h2⟩, if_neg (by omega), if_neg (by omega)]
  | d :: a, acc, u, c, h, h1, h2, h3 => by
    simp only [List.cons_append, Lib.parseUint10] at h ⊢
    by_cases g1 : 48 ≤ d.toNat ∧ d.toNat ≤ 57
    · rw [if_pos g1] at h ⊢
      by_cases g2 : 1844674407370955162 ≤ acc
      · rw [if_pos g2] at h; cases h
      · rw [if_neg g2] at h ⊢
        by_cases g3 : 18446744073709551616 ≤ acc * 10 + (d.toNat - 48)
        · rw [if_pos g3] at h; cases h
        · rw [if_neg g3] at h ⊢
          exact pu_app a _ u c h h1 h2 h3
    · rw [if_neg g1] at h; cases h
theorem pu_dd : ∀ n : Nat, n < 100000000000000000 → Lib.parseUint10 0 (Lib.decDigits n) = .ok n := by
  intro n
  induction n using Nat.strongRecOn with
  | _ n ih =>
    intro hn
    rw [Lib.decDigits]
    split
    · rename_i h
      simp only [Lib.parseUint10, dd_ofNat h]
      rw [if_pos (by omega), if_neg (by omega), if_neg (by omega)]
      congr 1; omega
    · have h := pu_app _ 0 _ (UInt8.ofNat (48 + n % 10)) (ih (n / 10) (by omega) (by omega)) (by rw [dd_ofNat (by omega)]; omega) (by rw [dd_ofNat (by omega)]; omega) (by omega)
      rw [h, dd_ofNat (by omega)]
      congr 1; omega
theorem atoi_dd (n : Nat) (h : n ≤ 999999) : Lib.atoiAll (Lib.decDigits n) = .ok (n : Int) := by
  have h1 := pu_dd n (by omega)
  have h2 := dd_digit n
  cases hl : Lib.decDigits n with
  | nil => exact absurd hl (dd_ne n)
  | cons c r =>
    rw [hl] at h1 h2
    have h3 := h2 c (.head _)
    have h4 : Lib.parseMag (c :: r) = .ok n := by
      unfold Lib.parseMag
      rw [if_neg (by simp), h1]
    simp only [Lib.atoiAll]
    rw [if_neg (by omega), h4]
    simp only
    rw [if_neg (by omega), if_neg (by omega), if_neg (by omega)]

/-- acts that are right -/
def actOk (p : Nat × Nat) : Prop := p.1 < 6 ∧ p.2 ≤ 999999 ∧ (3 < p.1 → p.2 = 0)
def IsAct (b : List UInt8) (p : Nat × Nat) : Prop := actOk p ∧ b = lnB p.1 p.2
def textB : List (Nat × Nat) → List UInt8
  | [] => []
  | p :: l => lnB p.1 p.2 ++ 10 :: textB l
theorem nmB_no (k : Nat) : 10 ∉ nmB k ∧ 32 ∉ nmB k ∧ nmB k ≠ [] := by
  rcases k with _ | _ | _ | _ | _ | k <;> (simp only [nmB]; decide)
theorem nmB_inj {k m : Nat} (hk : k < 6) (hm : m < 6) (h : nmB k = nmB m) : k = m := by
  obtain rfl | rfl | rfl | rfl | rfl | rfl : k = 0 ∨ k = 1 ∨ k = 2 ∨ k = 3 ∨ k = 4 ∨ k = 5 := by omega
  all_goals (obtain rfl | rfl | rfl | rfl | rfl | rfl : m = 0 ∨ m = 1 ∨ m = 2 ∨ m = 3 ∨ m = 4 ∨ m = 5 := by omega) <;> first | rfl | (exact absurd h (by decide))
theorem lnB_no (k n : Nat) : 10 ∉ lnB k n := by
  unfold lnB
  split
  · intro h
    rcases List.mem_append.1 h with h | h
    · exact (nmB_no k).1 h
    · rcases List.mem_cons.1 h with h | h
      · exact absurd h (by decide)
      · exact absurd (dd_digit n _ h).1 (by decide)
  · exact (nmB_no k).1
theorem lnB_ne (k n : Nat) : lnB k n ≠ [] := by
  unfold lnB
  split
  · simp
  · exact (nmB_no k).2.2
theorem isAct_uniq {b : List UInt8} {p q : Nat × Nat} (hp : IsAct b p) (hq : IsAct b q) : p = q := by
  obtain ⟨⟨h1, h2, h3⟩, h4⟩ := hp
  obtain ⟨⟨g1, g2, g3⟩, g4⟩ := hq
  obtain ⟨k, n⟩ := p
  obtain ⟨l, m⟩ := q
  simp only at *
  have e := h4.symm.trans g4
  unfold lnB at e
  by_cases hk : k < 4
  · by_cases hl : l < 4
    · rw [if_pos hk, if_pos hl] at e
      obtain ⟨e1, e2⟩ := sep_uniq (nmB_no k).2.1 (nmB_no l).2.1 e
      have e3 := congrArg val e2
      rw [val_dd, val_dd] at e3
      rw [nmB_inj h1 g1 e1, e3]
    · rw [if_pos hk, if_neg hl] at e
      exact absurd (e ▸ List.mem_append_right _ (.head _)) (nmB_no l).2.1
  · by_cases hl : l < 4
    · rw [if_neg hk, if_pos hl] at e
      exact absurd (e ▸ List.mem_append_right _ (.head _)) (nmB_no k).2.1
    · rw [if_neg hk, if_neg hl] at e
      rw [nmB_inj h1 g1 e, h3 (by omega), g3 (by omega)]
/-- what a text's parse is: its acts ahead of the first line that is none; is there no such line? -/
inductive Pars : List UInt8 → List (Nat × Nat) → Bool → Prop
  | nil : Pars [] [] true
  | line {b : List UInt8} {p : Nat × Nat} {r : List UInt8} {l : List (Nat × Nat)} {ok : Bool} : IsAct b p → Pars r l ok → Pars (b ++ 10 :: r) (p :: l) ok
  | bad {b r : List UInt8} : 10 ∉ b → (∀ p, ¬ IsAct b p) → Pars (b ++ 10 :: r) [] false
  | last {b : List UInt8} : 10 ∉ b → b ≠ [] → Pars b [] false
theorem isAct_no {b : List UInt8} {p : Nat × Nat} (h : IsAct b p) : 10 ∉ b := by rw [h.2]; exact lnB_no _ _
theorem pars_det {s : List UInt8} {l l' : List (Nat × Nat)} {ok ok' : Bool} (h : Pars s l ok) (h' : Pars s l' ok') : l = l' ∧ ok = ok' := by
  induction h generalizing l' ok' with
  | nil =>
    generalize hs : ([] : List UInt8) = s at h'
    cases h' with
    | nil => exact ⟨rfl, rfl⟩
    | line _ _ => simp at hs
    | bad _ _ => simp at hs
    | last _ h => exact absurd hs.symm h
  | @line b p r l ok ha _ ih =>
    generalize hs : b ++ 10 :: r = s at h'
    cases h' with
    | nil => simp at hs
    | line hb hr =>
      obtain ⟨e1, e2⟩ := sep_uniq (isAct_no ha) (isAct_no hb) hs
      subst e1 e2
      obtain ⟨e3, e4⟩ := ih hr
      rw [isAct_uniq ha hb, e3, e4]
      exact ⟨rfl, rfl⟩
    | bad hb hn =>
      obtain ⟨e1, e2⟩ := sep_uniq (isAct_no ha) hb hs
      subst e1
      exact absurd ha (hn _)
    | last hn _ => exact absurd (hs ▸ List.mem_append_right _ (.head _)) hn
  | @bad b r hb hn =>
    generalize hs : b ++ 10 :: r = s at h'
    cases h' with
    | nil => simp at hs
    | line hb' hr =>
      obtain ⟨e1, e2⟩ := sep_uniq hb (isAct_no hb') hs
      subst e1
      exact absurd hb' (hn _)
    | bad _ _ => exact ⟨rfl, rfl⟩
    | last hn' _ => exact absurd (hs ▸ List.mem_append_right _ (.head _)) hn'
  | @last b hb hn =>
    generalize hs : b = s at h'
    cases h' with
    | nil => exact absurd hs hn
    | line _ _ => exact absurd (hs ▸ List.mem_append_right _ (.head _)) hb
    | bad _ _ => exact ⟨rfl, rfl⟩
    | last _ _ => exact ⟨rfl, rfl⟩
theorem pars_inv {s : List UInt8} {l : List (Nat × Nat)} {ok : Bool} (h : Pars s l ok) : (∀ p ∈ l, actOk p) ∧ (ok = true → s = textB l) := by
  induction h with
  | nil => exact ⟨fun p h => (List.not_mem_nil h).elim, fun _ => rfl⟩
  | line ha _ ih =>
    refine ⟨fun q hq => ?_, fun e => ?_⟩
    · rcases List.mem_cons.1 hq with rfl | hq
      · exact ha.1
      · exact ih.1 q hq
    · rw [ih.2 e, ha.2]; rfl
  | bad _ _ => exact ⟨fun p h => (List.not_mem_nil h).elim, fun h => by cases h⟩
  | last _ _ => exact ⟨fun p h => (List.not_mem_nil h).elim, fun h => by cases h⟩
theorem pars_text {t : List UInt8} {l' : List (Nat × Nat)} {ok : Bool} (h : Pars t l' ok) : ∀ l : List (Nat × Nat), (∀ p ∈ l, actOk p) → Pars (textB l ++ t) (l ++ l') ok
  | [], _ => h
  | p :: l, hl => by
    have := Pars.line (b := lnB p.1 p.2) (p := p) ⟨hl p (.head _), rfl⟩ (pars_text h l (fun q hq => hl q (.tail _ hq)))
    simpa only [textB, List.append_assoc, List.cons_append] using this
theorem textB_app (l m : List (Nat × Nat)) : textB (l ++ m) = textB l ++ textB m := by
  induction l with
  | nil => rfl
  | cons p l ih => simp only [List.cons_append, textB, ih, List.append_assoc]
theorem pars_all (l : List (Nat × Nat)) (hl : ∀ p ∈ l, actOk p) : Pars (textB l) l true := by
  have := pars_text .nil l hl
  simpa using this
theorem textB_len : ∀ l : List (Nat × Nat), (∀ p ∈ l, actOk p) → (textB l).length ≤ 15 * l.length
  | [], _ => Nat.le_refl _
  | p :: l, hl => by
    have h1 := textB_len l (fun q hq => hl q (.tail _ hq))
    have h2 := dd_len6 p.2 (hl p (.head _)).2.1
    have h3 : ∀ k, (nmB k).length ≤ 7 := by
      intro k
      rcases k with _ | _ | _ | _ | _ | k <;> (simp only [nmB]; decide)
    have h4 := h3 p.1
    have h5 : (lnB p.1 p.2).length ≤ 14 := by
      unfold lnB
      split
      · rw [List.length_append, List.length_cons]; omega
      · omega
    simp only [textB, List.length_append, List.length_cons]
    omega
/-- lines that are none -/
def badB : Nat → List UInt8
  | 0 => []
  | 1 => [119, 111, 114, 107]
  | 2 => [112, 97, 115, 115, 32, 48]
  | 3 => [100, 101, 108, 105, 118, 101, 114, 32, 48, 48]
  | 4 => [99, 114, 97, 115, 104, 32, 49, 50, 51, 52, 53, 54, 55]
  | _ => [32, 112, 97, 115, 115]
theorem badB_no (i : Nat) : 10 ∉ badB i := by
  rcases i with _ | _ | _ | _ | _ | i <;> (simp only [badB]; decide)
theorem badB_bad (i : Nat) (p : Nat × Nat) : ¬ IsAct (badB i) p := by
  obtain ⟨k, n⟩ := p
  rintro ⟨⟨h1, h2, h3⟩, h4⟩
  simp only at h1 h2 h3 h4
  have e2 : [48, 48] ≠ Lib.decDigits n := by
    intro h
    have := congrArg val h
    rw [val_dd] at this
    have e : n = 0 := by rw [← this]; rfl
    subst e
    rw [Lib.decDigits_one (by omega)] at h
    cases h
  have e3 : [49, 50, 51, 52, 53, 54, 55] ≠ Lib.decDigits n := by
    intro h
    have := dd_len6 n h2
    rw [← h] at this
    simp at this
  obtain rfl | rfl | rfl | rfl | rfl | rfl : k = 0 ∨ k = 1 ∨ k = 2 ∨ k = 3 ∨ k = 4 ∨ k = 5 := by omega
  all_goals (rcases i with _ | _ | _ | _ | _ | i <;> first | (simp [badB, lnB, nmB] at h4; done) | (simp [badB, lnB, nmB] at h4; exact e2 h4) | (simp [badB, lnB, nmB] at h4; exact e3 h4))
theorem pars_bad (l : List (Nat × Nat)) (hl : ∀ p ∈ l, actOk p) (i : Nat) (t : List UInt8) : Pars (textB l ++ (badB i ++ 10 :: t)) l false := by
  have := pars_text (.bad (r := t) (badB_no i) (badB_bad i)) l hl
  rwa [List.append_nil] at this
theorem pars_open (l : List (Nat × Nat)) (hl : ∀ p ∈ l, actOk p) (hne : l ≠ []) : Pars ((textB l).take ((textB l).length - 1)) (l.take (l.length - 1)) false := by
  obtain ⟨m, p, rfl⟩ : ∃ m p, l = m ++ [p] := ⟨l.dropLast, l.getLast hne, (List.dropLast_concat_getLast hne).symm⟩
  have h1 := pars_text (.last (lnB_no p.1 p.2) (lnB_ne p.1 p.2)) m (fun q hq => hl q (List.mem_append_left _ hq))
  have e : textB (m ++ [p]) = (textB m ++ lnB p.1 p.2) ++ [10] := by rw [textB_app, List.append_assoc]; rfl
  rw [e, List.take_left' (by simp), List.take_left' (by simp)]
  rwa [List.append_nil] at h1
end Go.Gr
end

section
/- Strings: s[a:b]; string of one byte. -/
namespace Go.Sx
open Go Go.RowKit Go.Reg
section
variable {C : Cx} {T : Tab} {fr : Fr} {σ : Sg}
theorem run_slice_str {P : Program} {t : TypeId} {e : TyI} (h : TyOk P t e) (hk : e.kd = 7) {s : ByteArray} {w : World} {lo hi : Option Value} {l m : Nat} (hlo : match lo with | none => l = 0 | some v => ∃ k, v = .int k l) (hhi : match hi with | none => m = s.size | some v => ∃ k, v = .int k m) (hlm : l ≤ m) (hml : m ≤ s.size) :
    (Instr.sliceAt t (.string s) lo hi none).run P w = .ok (.string (s.extract l m)) w := by
  obtain ⟨d, h1, _, _, _, _, _, _, h8⟩ := h.desc
  rw [hk] at h8
  cases d <;> simp at h8
  have hb : (Instr.sliceBounds false s.size s.size lo hi none).run P w = .ok (l, m, s.size) w := by
    cases lo with
    | none =>
      simp only at hlo; subst hlo
      cases hi with
      | none => simp only at hhi; subst hhi; simp [Instr.sliceBounds]
      | some v => obtain ⟨k, rfl⟩ := hhi; simp [Instr.sliceBounds, run_sliceBound (w := w) (P := P) (k := k) (show m ≤ s.size by omega)]
    | some u =>
      obtain ⟨k', rfl⟩ := hlo
      cases hi with
      | none => simp only at hhi; subst hhi; simp [Instr.sliceBounds, run_sliceBound (w := w) (P := P) (k := k') hlm]
      | some v => obtain ⟨k, rfl⟩ := hhi; simp [Instr.sliceBounds, run_sliceBound (w := w) (P := P) (k := k) (show m ≤ s.size by omega), run_sliceBound (w := w) (P := P) (k := k') hlm]
  simp only [Instr.sliceAt, Sem.run_bind, run_underlying h1, Result.andThen_ok, Instr.slice]
  simp
  rw [hb]
  rfl
/-- 's[l:m]' of a string -/
theorem op_strSl (l m : Nat) {n kd : Nat} {o : Oper} {K : Fr → Sg → Prop} {t : TypeId} {x : Operand} {lo hi : Option Operand} {e : TyI} {s : ByteArray} (hC : C.Ok T) (ho : o.op = .slice t x lo hi none) (he : tyAt t T = some e) (hk7 : e.kd = 7) (hx : ev C.Γ fr x = .d (.str s)) (hlo : match lo with | none => l = 0 | some y => ∃ k : Int, ev C.Γ fr y = .d (.int .i64 k) ∧ k = l) (hhi : match hi with | none => m = s.size | some y => ∃ k : Int, ev C.Γ fr y = .d (.int .i64 k) ∧ k = m)
    (hlm : l ≤ m) (hms : m ≤ s.size) (hkd : kd = 3) (hd : dstOk o.dst n = true) (hK : K (putF o.dst (.d (.str (s.extract l m))) fr) σ) : OpSem C n kd o K fr σ := by
  subst hkd
  refine opSem_calc (by decide) (by decide) hd fun B S w0 η φ a' w hM => ?_
  have ex : a'.eval x = .string s := RD.str (by have := ev_rep hM x; rwa [hx] at this)
  refine .inr ⟨_, _, hK, ?_, rd_str _, fun h => by cases h⟩
  simp only [execOp, ho, Option.map_none]
  refine run_v ?_
  rw [ex]
  refine run_slice_str (hC.ty he) hk7 ?_ ?_ hlm hms
  · cases lo with
    | none => simpa using hlo
    | some y =>
      obtain ⟨k, h1, h2⟩ := hlo
      subst h2
      exact ⟨_, rep_int (rd_da (ev_rep hM y) h1)⟩
  · cases hi with
    | none => simpa using hhi
    | some y =>
      obtain ⟨k, h1, h2⟩ := hhi
      subst h2
      exact ⟨_, rep_int (rd_da (ev_rep hM y) h1)⟩
/-- 'string' of an owned slice of one byte -/
theorem op_str1 {n kd : Nat} {o : Oper} {K : Fr → Sg → Prop} {t u : TypeId} {x : Operand} {e f g : TyI} {E i : Nat} {b : Int} (hC : C.Ok T) (ho : o.op = .convert t u x) (he : tyAt t T = some e) (hk2 : e.kd = 2) (hf : tyAt u T = some f) (hk7 : f.kd = 7) (hg : tyAt e.elem T = some g) (hik : g.ik = some .u8) (_hg8 : g.kd = 8) (hx : ev C.Γ fr x = .own i) (hs : sget i σ = some (.slice E 1 [.int .u8 b])) (hkd : kd = 3) (hd : dstOk o.dst n = true)
    (hK : K (putF o.dst (.d (.str ⟨#[UInt8.ofNat b.toNat]⟩)) fr) σ) : OpSem C n kd o K fr σ := by
  subst hkd
  refine opSem_calc (by decide) (by decide) hd fun B S w0 η φ a' w hM => ?_
  have ex : a'.eval x = η i := rd_own (ev_rep hM x) hx
  obtain ⟨css, h1, _, h3, _⟩ := own_slice_val hM.mem hs
  simp only [RepCss, RepC] at h3
  obtain ⟨c1, c2, rfl, rfl, rfl⟩ := h3
  refine .inr ⟨_, _, hK, ?_, rd_str _, fun h => by cases h⟩
  simp only [execOp, ho]
  refine run_v ?_
  rw [ex]
  obtain ⟨d1, g1, _, g3, _, _, _, _, g8⟩ := (hC.ty he).desc
  rw [hk2] at g8
  cases d1 <;> simp at g8
  have hel := g3 _ rfl
  subst hel
  obtain ⟨d2, j1, _, _, _, _, _, _, j8⟩ := (hC.ty hf).desc
  rw [hk7] at j8
  cases d2 <;> simp at j8
  obtain ⟨d3, m1, _, _, _, _, _, m7, m8⟩ := (hC.ty hg).desc
  have hd3 := m7 _ hik
  subst hd3
  rcases h1.shape with ⟨_, h⟩ | ⟨gg, cap, hv, hc⟩
  · cases h
  · have hcells := sl_cells h1 hv
    have hl := run_loadCells_list (P := C.P) w ⟨gg, 0, none⟩ [.int .u8 b] (fun j v hj => by
      have := hcells j v (by simpa using hj)
      cases j with
      | zero => simpa [Addr.add_lit] using this
      | succ j => simp at hj)
    rw [hv]
    simp only [convert, Sem.run_bind, run_underlying g1, run_underlying j1, run_underlying m1, Result.andThen_ok, Conv.bytesToString]
    simp only [List.length_singleton] at hl ⊢
    rw [hl]
    simp
    rfl
end
end Go.Sx
end

section
/- ref05: Num · ref25: Line. -/
namespace Go.Sx
open Go
theorem cat_ok {a b : ByteArray} {K : Prop} (h : a.size + b.size ≤ 9223372036854775807) (hK : K) : a.size + b.size ≤ 9223372036854775807 ∧ K := ⟨h, hK⟩
theorem u8_is {e : Int} {K : Int → Prop} (h : 0 ≤ e ∧ e ≤ 255) (hK : K e) : ∃ n, IntKind.u8.wrap e = n ∧ K n := ⟨e, by
  have e1 : IntKind.u8.wrap e = e % 256 := rfl
  rw [e1]; omega, hK⟩
theorem at_ls {ds : List Da} {i : Nat} {d : Da} {n : Int} {K : Nat → Da → Prop} (hx : ds[i]? = some d) (hn : n = i) (hK : K i d) : ∃ (j : Nat) (d : Da), n = j ∧ ds[j]? = some d ∧ K j d := ⟨i, d, hn, hx, hK⟩
end Go.Sx
namespace Go.Proofs.YthegabgbakckfaaGreatDoor
open Go.Sx Go.RowKit Go.Reg Go.Gr

set_option maxRecDepth 100000
end Go.Proofs.YthegabgbakckfaaGreatDoor
end

section
/- What a variable's block holds, as a walk knows it. -/
namespace Go.Proofs.YthegabgbakckfaaGreatDoor
open Go.Sx Go.RowKit Go.Reg Go.Gr

set_option maxRecDepth 100000
theorem glob_at {C : Cx} {O : List Nat} {w : World} {p : Nat × Da} (h : Glob C O w) (hp : p ∈ C.Γ) : ∃ c, RepC O w p.2 c ∧ Cells w p.1 0 c ∧ ∃ cs t fr, w.heap[p.1]? = some (.cells cs t fr) ∧ cs.size = gsz p.2 := by
  obtain ⟨⟨cs, h1, h2⟩, _, h3⟩ := h p hp
  simp only [RepC] at h1
  obtain ⟨b, o, c, rfl, _, _, h4, h5⟩ := h1
  simp only [toV, List.headD_cons, Value.pointer.injEq, Option.some.injEq, Addr.mk.injEq, and_true] at h2
  obtain ⟨h6, rfl⟩ := h2
  subst h6
  exact ⟨c, h4, h5, h3⟩
theorem glob_cell {C : Cx} {O : List Nat} {w : World} {g : Nat} {d : Da} {v : Value} (h : Glob C O w) (hp : (g, d) ∈ C.Γ) (hd : ∀ c, RepC O w d c → c = [v]) : w.cell? ⟨g, 0, none⟩ = some v := by
  obtain ⟨c, h1, h2, _⟩ := glob_at h hp
  rw [hd c h1] at h2
  exact h2 0 _ rfl
theorem ints_cells {O : List Nat} {w : World} {k : IntKind} : ∀ {l : List Int} {c : List Value}, RepCs O w (l.map (Da.int k)) c → c = l.map (Value.int k)
  | [], c, h => by simpa only [List.map_nil, RepCs] using h
  | x :: l, c, h => by
    simp only [List.map_cons, RepCs, RepC] at h
    obtain ⟨c1, c2, rfl, rfl, h⟩ := h
    rw [ints_cells h]; rfl
theorem tab_of {P : Program} {C : Cx} {O : List Nat} {w : World} {g : Nat} {k : IntKind} {l : List Int} {name : String} (h : Glob C O w) (hp : (g, .agg (l.map (Da.int k))) ∈ C.Γ) (hn : P.globalNamed name = some g) : Lib.TabIs P w name k l := by
  obtain ⟨c, h1, h2, cs, t, fr, h3, h4⟩ := glob_at h hp
  simp only [RepC] at h1
  have hc := ints_cells h1
  subst hc
  unfold Lib.TabIs World.var?
  rw [hn, Option.bind_some]
  rw [h3]
  simp only [Option.some.injEq]
  have hsz : cs.size = l.length := by rw [h4]; simp [gsz]
  apply Array.ext
  · simp [hsz]
  · intro i h5 h6
    have := h2 i (Value.int k (l[i]'(by omega))) (by rw [List.getElem?_map, List.getElem?_eq_getElem (by omega)]; rfl)
    simp only [World.cell?, h3, Nat.zero_add] at this
    rw [Array.getElem?_eq_getElem h5] at this
    simpa using this
theorem rep_str {O : List Nat} {w : World} {s : ByteArray} {v : Value} (h : Rep O w (.str s) v) : v = .string s := by
  obtain ⟨cs, h1, rfl⟩ := h
  simp only [RepC] at h1
  subst h1; rfl
end Go.Proofs.YthegabgbakckfaaGreatDoor
end

section
/- strconv.Itoa, strings.Join, told for the engine (the table of powers is known). pat: Text. -/
namespace Go.Gr
open Go
theorem itoa_nat (n : Nat) : Lib.itoa n = Lib.decDigits n := by
  unfold Lib.itoa
  rw [if_neg (by omega)]; simp
theorem itoa_len {n : Int} (h0 : 0 ≤ n) (h1 : n ≤ 999999) : (Lib.itoa n).length ≤ 6 := by
  obtain ⟨k, rfl⟩ := Int.eq_ofNat_of_zero_le h0
  rw [itoa_nat]
  exact dd_len6 k (by omega)
theorem join_two (x y : List UInt8) (r : List (List UInt8)) (sep : List UInt8) : Lib.join (x :: y :: r) sep = x ++ (sep ++ Lib.join (y :: r) sep) := by
  simp [Lib.join, List.intercalate]
theorem join_len {m : Nat} (sep : List UInt8) : ∀ xs : List (List UInt8), (∀ x ∈ xs, x.length ≤ m) → (Lib.join xs sep).length ≤ xs.length * (m + sep.length)
  | [], _ => by rw [Lib.join_nil]; simp
  | [x], h => by
    have := h x (.head _)
    rw [Lib.join_one, List.length_singleton]; omega
  | x :: y :: r, h => by
    have h1 := join_len sep (y :: r) (fun z hz => h z (.tail _ hz))
    have h2 := h x (.head _)
    rw [join_two, List.length_append, List.length_append, List.length_cons, Nat.add_mul, Nat.one_mul]; omega
/-- an edge's text -/
def edgB (e : Edg) : List UInt8 := Lib.itoa e.a ++ 45 :: Lib.itoa e.b
/-- a pattern's text -/
def patB (p : Pt) : List UInt8 := Lib.join (p.labels.map Lib.itoa) [44] ++ 124 :: Lib.join (p.edges.map edgB) [44]
end Go.Gr
namespace Go.Proofs.YthegabgbakckfaaGreatDoor
open Go.Sx Go.RowKit Go.Reg Go.Gr Go.Shelf

set_option maxRecDepth 100000
theorem joinX : Builder.Extra Tryz.prog Tryz.joinL_ren where
  sizeBuilder := by kernel_rfl
  liesBuilder := by kernel_rfl
  t5 := Tryz.underlying5
  a5 := by intro w; kernel_rfl
  z5 := by intro w; kernel_rfl
  v5 := by intro w; kernel_rfl
  infoByte := by kernel_rfl
  cellsByte := by kernel_rfl
  sizeByte := by kernel_rfl
  neB5 := by decide
/-- with the table of powers -/
noncomputable def C3 : Cx := ⟨Tryz.prog, C1.Γ ++ [(1, .agg (Lib.pow10Tab.map (Da.int .u64)))]⟩
theorem memTab3 : (1, Da.agg (Lib.pow10Tab.map (Da.int .u64))) ∈ C3.Γ := List.mem_append_right _ (.head _)
theorem c3_ok : C3.Ok tab := ⟨c1_ok.tab, c1_ok.mixed⟩
theorem Pure.up3 {f : FuncId} {xs : List Da} {Q : Da → Prop} (h : Sx.Pure C1 f xs Q) : Sx.Pure C3 f xs Q := fun O w vs h1 h2 h3 => h O w vs h1 (fun g hg => h2 g (List.mem_append_left _ hg)) h3
theorem itoa3_pure (n : Int) (h0 : -9223372036854775808 ≤ n) (h1 : n ≤ 9223372036854775807) : Sx.Pure C3 117 [.int .i64 n] (fun y => y = .str (bs (Lib.itoa n))) := by
  intro O w us hO hg hr
  obtain ⟨v, vs, rfl, h3, h2⟩ := reps_inv hr
  obtain rfl := reps_inv0 h2
  obtain rfl := rep_int h3
  refine ⟨by kernel_rfl, (Any.strconv_Itoa Tryz.itoaL n h0 h1 w (tab_of hg memTab3 (by kernel_rfl))).mono ?_⟩
  rintro e w' ⟨rfl, k, os, rfl⟩
  refine ⟨_, _, rfl, rfl, ⟨[_], by simp only [RepC]; rfl, rfl⟩, ⟨rfl, rfl, rfl, by rw [Go.Sort.size_grow]; exact Nat.le_add_right _ _, fun b hb _ => Go.Sort.heap_grow_old (w.drewN k) os hb⟩⟩
def strD (x : List UInt8) : Da := .str (bs x)
theorem strs_css {O : List Nat} {w : World} : ∀ {xs : List (List UInt8)} {css : List (List Value)}, RepCss O w (xs.map strD) css → css = xs.map fun x => [Value.string (bs x)]
  | [], css, h => by simpa only [List.map_nil, RepCss] using h
  | x :: xs, css, h => by
    simp only [List.map_cons, RepCss, strD, RepC] at h
    obtain ⟨c1, c2, rfl, rfl, h⟩ := h
    rw [strs_css h]; rfl
theorem strs_flat (xs : List (List UInt8)) : (xs.map fun x => [Value.string (bs x)]).flatten = xs.map fun x => Value.string (bs x) := by
  induction xs with
  | nil => rfl
  | cons x xs ih => simp only [List.map_cons, List.flatten_cons, ih]; rfl
theorem join_pure (C : Cx) (hC : C.P = Tryz.prog) (xs : List (List UInt8)) (sep : List UInt8) (hN : xs.length ≤ 1000000) (hlen : (Lib.join xs sep).length ≤ 140737488355328) : Sx.Pure C 118 [.list 1 (xs.map strD), .str (bs sep)] (fun y => y = .str (bs (Lib.join xs sep))) := by
  intro O w us hO hg hr
  obtain ⟨v, vs, rfl, h3, h2⟩ := reps_inv hr
  obtain ⟨v2, vs2, rfl, h4, h5⟩ := reps_inv h2
  obtain rfl := reps_inv0 h5
  obtain rfl := rep_str h4
  obtain ⟨cs, r, rfl⟩ := h3
  simp only [RepC] at r
  obtain ⟨a, c, css, rfl, hc, _, hcs, _, hcell⟩ := r
  have hb : ∀ w' : World, Below w.heap.size w w' → Tch [] w w' := fun w' h => ⟨h.os, h.tape, h.output, h.size, fun b hb _ => h.block b hb⟩
  obtain rfl := strs_css hcs
  rw [List.length_map] at hc
  rw [hC]
  refine ⟨by kernel_rfl, ?_⟩
  show Calls Tryz.prog 118 #[.slice a (xs.map strD).length c, .string (bs sep)] w _
  rw [List.length_map]
  cases xs with
  | nil =>
    refine (Any.strings_Join_none Tryz.joinL joinX a c (bs sep) w).mono ?_
    rintro e w' ⟨rfl, rfl⟩
    exact ⟨_, _, rfl, rfl, ⟨[_], by simp only [RepC]; rfl, rfl⟩, Tch.refl _ _⟩
  | cons x xs =>
    obtain ⟨b, o, rfl, _, hbl, hcl⟩ := hcell.resolve_left (by simp)
    rw [strs_flat] at hcl
    have hmap : ((x :: xs).map bs).map (·.data.toList) = x :: xs := by
      rw [List.map_map]
      have : ((fun y : ByteArray => y.data.toList) ∘ bs) = id := by funext z; simp [bs]
      rw [this, List.map_id]
    have := Any.strings_Join Tryz.joinL joinX b o c ((x :: xs).map bs) (bs sep) w (fun j y hy => by
      refine hcl j (.string y) ?_
      rw [List.getElem?_map] at hy ⊢
      obtain ⟨z, hz, rfl⟩ := Option.map_eq_some_iff.1 hy
      rw [hz]; rfl) hbl (by rw [List.length_map]; omega) (by rw [List.length_map]; exact hc) (by rw [hmap]; exact hlen)
    rw [hmap, List.length_map] at this
    refine this.mono ?_
    rintro e w' ⟨rfl, h⟩
    exact ⟨_, _, rfl, rfl, ⟨[_], by simp only [RepC]; rfl, rfl⟩, hb _ h⟩
def pl_ptx : List (Nat × Plan) := [(10, .leaf [0, 0, 1, 2, 0, 0, 1, 2, 0, 6, 3, 0] [0, 1, 5, 2, 6, 3, 4, 7, 8, 9, 10, 11] [0, 0, 2, 6, 14, 0, 32, 110, 254, 510, 1023, 2047])]
def G_ptx : List FuncId := [117, 118]
theorem cok_ptx : codeOk Tryz.prog G_ptx pl_ptx (Tryz.f56.body.getD .skip) = true := by kernel_rfl
theorem run_ptx (vs : Array Value) (w : World) : (callFunc 56 vs).run C1.P w = .ok (.enter 56 vs) w := by kernel_rfl
set_option maxHeartbeats 4000000 in
theorem ptext_pure (p : Pt) (hl : p.labels.length ≤ 1000) (hll : ∀ x ∈ p.labels, 0 ≤ x ∧ x ≤ 999999) (he : p.edges.length ≤ 1000) (hee : ∀ e ∈ p.edges, (0 ≤ e.a ∧ e.a ≤ 999999) ∧ 0 ≤ e.b ∧ e.b ≤ 999999) : Sx.Pure C3 56 [dPt p] (fun y => y = .str (bs (patB p))) := by
  have hdl : (p.labels.map dI).length = p.labels.length := List.length_map _
  have hde : (p.edges.map dE).length = p.edges.length := List.length_map _
  refine pure_of c3_ok (pl := pl_ptx) (G := G_ptx) Tryz.func56 rfl Tryz.ntmps56 run_ptx cok_ptx (by simp) ?_
  ((conv => whnf); repeat' ((first | refine odw ?_ | refine ify ?_ | refine ifn ?_ | refine i6 ?_ | refine ati ?_ | refine mst ?_ | refine rmd ?_ | refine ibo (fun _ => ?_) (fun _ => ?_)) <;> conv => whnf))
  refine loop_lo (ι := Nat) (fun i => i ≤ p.labels.length) (fun i => [(12, .d (.int .i64 i)), (11, .d (.int .i64 p.labels.length)), (10, .d (dIs p.labels)), (4, .d .nils), (3, .own 300), (1, .own 1)]) (fun i => [(1, .cells 35 [.d (dIs p.labels), .d (dEs p.edges)]), (300, .slice 9 1 (((p.labels.take i).map Lib.itoa).map strD))]) (fun i => p.labels.length - i) 0 (fun _ => rfl) (Nat.zero_le _) (.own 3 300 9 1 rfl rfl (.refl _ _)) ⟨rfl, by rw [← hdl]; rfl, rfl, rfl, rfl, rfl, trivial⟩ ⟨rfl, rfl, trivial⟩ ?_
  intro i hi
  refine sxCode_sound c3_ok (G := G_ptx) (pl := pl_ptx) _ _ _ _ (by kernel_rfl) ?_
  by_cases hil : i < p.labels.length
  · have hx := List.getElem?_eq_getElem hil
    have hxb := hll _ (List.getElem_mem hil)
    generalize p.labels[i] = x at hx hxb
    have hxd : (p.labels.map dI)[i]? = some (.int .i64 x) := by rw [List.getElem?_map, hx]; rfl
    have hit := itoa3_pure x (by omega) (by omega)
    have hlen : (((p.labels.take i).map Lib.itoa).map strD).length = i := by simp only [List.length_map, List.length_take]; omega
    (conv => whnf)
    (repeat' ((first | refine ord_ok (by (conv => whnf); (repeat' ((first | refine at_da hxd rfl ?_ | refine call_eqb tab rfl hit rfl ?_ | refine ify ?_ | refine ifn ?_ | refine i6 ?_ | refine ati ?_ | refine mst ?_ | refine rmd ?_ | refine ibo (fun _ => ?_) (fun _ => ?_)) <;> conv => whnf)); (all_goals (repeat' (first | exact trivial | exact rfl | refine And.intro ?_ ?_)))) ?_ | refine at_da hxd rfl ?_ | refine call_eqb tab rfl hit rfl ?_ | refine ify ?_ | refine ifn ?_ | refine i6 ?_ | refine ati ?_ | refine mst ?_ | refine rmd ?_ | refine ibo (fun _ => ?_) (fun _ => ?_)) <;> conv => whnf))
    refine ⟨i + 1, _, _, by omega, .refl _ _, ⟨rfl, rfl, rfl, rfl, rfl, rfl, trivial⟩, ⟨rfl, slice_is ?_, trivial⟩, by omega⟩
    rw [List.take_add_one, hx]; simp [strD]
  · have e : p.labels.take i = p.labels := List.take_of_length_le (by omega)
    rw [e]
    ((conv => whnf); repeat' ((first | refine odw ?_ | refine ify ?_ | refine ifn ?_ | refine i6 ?_ | refine ati ?_ | refine mst ?_ | refine rmd ?_ | refine ibo (fun _ => ?_) (fun _ => ?_)) <;> conv => whnf))
    refine loop_lo (ι := Nat) (fun i => i ≤ p.edges.length) (fun i => [(25, .d (.int .i64 i)), (24, .d (.int .i64 p.edges.length)), (23, .d (dEs p.edges)), (4, .own 301), (3, .own 300), (1, .own 1)]) (fun i => [(1, .cells 35 [.d (dIs p.labels), .d (dEs p.edges)]), (300, .slice 9 1 ((p.labels.map Lib.itoa).map strD)), (301, .slice 9 1 (((p.edges.take i).map edgB).map strD))]) (fun i => p.edges.length - i) 0 (fun _ => rfl) (Nat.zero_le _) (.own 4 301 9 1 rfl rfl (.refl _ _)) ⟨rfl, by rw [← hde]; rfl, rfl, rfl, rfl, rfl, trivial⟩ ⟨rfl, rfl, rfl, trivial⟩ ?_
    intro j hj
    refine sxCode_sound c3_ok (G := G_ptx) (pl := pl_ptx) _ _ _ _ (by kernel_rfl) ?_
    by_cases hjl : j < p.edges.length
    · have hx := List.getElem?_eq_getElem hjl
      have hxb := hee _ (List.getElem_mem hjl)
      generalize p.edges[j] = e at hx hxb
      have hxd : (p.edges.map dE)[j]? = some (.agg [.int .i64 e.a, .int .i64 e.b]) := by rw [List.getElem?_map, hx]; rfl
      have hia := itoa3_pure e.a (by omega) (by omega)
      have hib := itoa3_pure e.b (by omega) (by omega)
      have la := itoa_len hxb.1.1 hxb.1.2
      have lb := itoa_len hxb.2.1 hxb.2.2
      have za := bs_size (Lib.itoa e.a)
      have zb := bs_size (Lib.itoa e.b)
      have zc : (bs (Lib.itoa e.a) ++ bs [45]).size = (Lib.itoa e.a).length + 1 := by rw [bs_cat, bs_size]; simp
      have hlen : (((p.edges.take j).map edgB).map strD).length = j := by simp only [List.length_map, List.length_take]; omega
      (conv => whnf)
      (repeat' ((first | refine ord_ok (by (conv => whnf); (repeat' ((first | refine at_da hxd rfl ?_ | refine call_eqb tab rfl hia rfl ?_ | refine call_eqb tab rfl hib rfl ?_ | refine cat_ok (a := bs (Lib.itoa e.a)) (b := bs [45]) (by rw [za]; simp [bs_size]; omega) ?_ | refine cat_ok (a := bs (Lib.itoa e.a) ++ bs [45]) (b := bs (Lib.itoa e.b)) (by omega) ?_ | refine ify ?_ | refine ifn ?_ | refine i6 ?_ | refine ati ?_ | refine mst ?_ | refine rmd ?_ | refine ibo (fun _ => ?_) (fun _ => ?_)) <;> conv => whnf)); (all_goals (repeat' (first | exact trivial | exact rfl | refine And.intro ?_ ?_)))) ?_ | refine at_da hxd rfl ?_ | refine call_eqb tab rfl hia rfl ?_ | refine call_eqb tab rfl hib rfl ?_ | refine cat_ok (a := bs (Lib.itoa e.a)) (b := bs [45]) (by rw [za]; simp [bs_size]; omega) ?_ | refine cat_ok (a := bs (Lib.itoa e.a) ++ bs [45]) (b := bs (Lib.itoa e.b)) (by omega) ?_ | refine ify ?_ | refine ifn ?_ | refine i6 ?_ | refine ati ?_ | refine mst ?_ | refine rmd ?_ | refine ibo (fun _ => ?_) (fun _ => ?_)) <;> conv => whnf))
      refine ⟨j + 1, _, _, by omega, .refl _ _, ⟨rfl, rfl, rfl, rfl, rfl, rfl, trivial⟩, ⟨rfl, rfl, slice_is ?_, trivial⟩, by omega⟩
      have hs : strD (edgB e) = .str ((bs (Lib.itoa e.a) ++ bs [45]) ++ bs (Lib.itoa e.b)) := by unfold strD edgB; rw [bs_cat, bs_cat]; simp
      rw [List.take_add_one, hx, List.map_append, List.map_append]
      show _ = _ ++ [strD (edgB e)]
      rw [hs]; rfl
    · have e : p.edges.take j = p.edges := List.take_of_length_le (by omega)
      rw [e]
      have l1 := join_len (m := 6) [44] (p.labels.map Lib.itoa) (fun x hx => by
        obtain ⟨y, hy, rfl⟩ := List.mem_map.1 hx
        exact itoa_len (hll y hy).1 (hll y hy).2)
      have l2 := join_len (m := 13) [44] (p.edges.map edgB) (fun x hx => by
        obtain ⟨y, hy, rfl⟩ := List.mem_map.1 hx
        have := hee y hy
        have h1 := itoa_len this.1.1 this.1.2
        have h2 := itoa_len this.2.1 this.2.2
        unfold edgB
        rw [List.length_append, List.length_cons]; omega)
      rw [List.length_map, List.length_singleton] at l1 l2
      have j1 := join_pure C3 rfl (p.labels.map Lib.itoa) [44] (by rw [List.length_map]; omega) (by omega)
      have j2 := join_pure C3 rfl (p.edges.map edgB) [44] (by rw [List.length_map]; omega) (by omega)
      have z1 := bs_size (Lib.join (p.labels.map Lib.itoa) [44])
      have z2 := bs_size (Lib.join (p.edges.map edgB) [44])
      have z3 : (bs (Lib.join (p.labels.map Lib.itoa) [44]) ++ bs [124]).size = (Lib.join (p.labels.map Lib.itoa) [44]).length + 1 := by rw [bs_cat, bs_size]; simp
      (conv => whnf)
      (repeat' ((first | refine ord_ok (by (conv => whnf); (repeat' ((first | refine call_frz 300 rfl ?_ | refine call_frz 301 rfl ?_ | refine call_eq rfl j1 ?_ | refine call_eq rfl j2 ?_ | refine cat_ok (a := bs (Lib.join (p.labels.map Lib.itoa) [44])) (b := bs [124]) (by rw [z1]; simp [bs_size]; omega) ?_ | refine cat_ok (a := bs (Lib.join (p.labels.map Lib.itoa) [44]) ++ bs [124]) (b := bs (Lib.join (p.edges.map edgB) [44])) (by omega) ?_ | refine ify ?_ | refine ifn ?_ | refine i6 ?_ | refine ati ?_ | refine mst ?_ | refine rmd ?_ | refine ibo (fun _ => ?_) (fun _ => ?_)) <;> conv => whnf)); (all_goals (repeat' (first | exact trivial | exact rfl | refine And.intro ?_ ?_)))) ?_ | refine call_frz 300 rfl ?_ | refine call_frz 301 rfl ?_ | refine call_eq rfl j1 ?_ | refine call_eq rfl j2 ?_ | refine cat_ok (a := bs (Lib.join (p.labels.map Lib.itoa) [44])) (b := bs [124]) (by rw [z1]; simp [bs_size]; omega) ?_ | refine cat_ok (a := bs (Lib.join (p.labels.map Lib.itoa) [44]) ++ bs [124]) (b := bs (Lib.join (p.edges.map edgB) [44])) (by omega) ?_ | refine ify ?_ | refine ifn ?_ | refine i6 ?_ | refine ati ?_ | refine mst ?_ | refine rmd ?_ | refine ibo (fun _ => ?_) (fun _ => ?_)) <;> conv => whnf))
      show Da.plain (.str ((bs _ ++ bs [124]) ++ bs _)) = _
      unfold patB
      rw [bs_cat, bs_cat]
      simp [Da.plain]
end Go.Proofs.YthegabgbakckfaaGreatDoor
end
