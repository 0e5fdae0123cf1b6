/- Merged: Vpl Lvp Lvs Lvj. -/
import Derived.Test.YtaadeobcnamgdaaGreatDoorZbau
import Derived.Test.YtaadeobcnamgdaaGreatDoorZbav
import Derived.Test.YtaadeobcnamgdaaGreatDoorZbba
import Derived.Test.YtaadeobcnamgdaaGreatDoorZban
section
/- vert: plain laws: what lists grow to from single vertices is the lists of all sets that have one; picks of a list. -/
namespace Go.Proofs.YtaadeobcnamgdaaGreatDoor
open Go.Gr
/-- those of a list whose bits stand in a number -/
def pick : List Int → Nat → List Int
  | [], _ => []
  | x :: s, m => (if m % 2 = 1 then [x] else []) ++ pick s (m / 2)
theorem pick_all : ∀ {s p : List Int}, p.Sublist s → ∃ m, m < 2 ^ s.length ∧ pick s m = p
  | _, _, .slnil => ⟨0, by simp, rfl⟩
  | _, _, .cons x h => by
    obtain ⟨m, hm, hp⟩ := pick_all h
    refine ⟨2 * m, ?_, ?_⟩
    · rw [List.length_cons, Nat.pow_succ]; omega
    · unfold pick
      rw [if_neg (by omega), show 2 * m / 2 = m by omega]; exact hp
  | _, _, .cons_cons x h => by
    obtain ⟨m, hm, hp⟩ := pick_all h
    refine ⟨2 * m + 1, ?_, ?_⟩
    · rw [List.length_cons, Nat.pow_succ]; omega
    · unfold pick
      rw [if_pos (by omega), show (2 * m + 1) / 2 = m by omega, hp]; rfl
theorem rise_sub {s p : List Int} (hs : s.Pairwise (· < ·)) (hp : p.Pairwise (· < ·)) (h : ∀ x ∈ p, x ∈ s) : p.Sublist s := by
  have : p = s.filter (fun x => decide (x ∈ p)) := rise_eq hp (hs.sublist List.filter_sublist) fun x => by
    rw [List.mem_filter, decide_eq_true_eq]; exact ⟨fun hx => ⟨h x hx, hx⟩, fun hx => hx.2⟩
  rw [this]; exact List.filter_sublist
/-- lists of a level: those of the one ahead, each with what may come behind -/
def growL (G : Gr) (l : List Int) : List (List Int) := (growV G l).map fun x => l ++ [x]
def rowV (G : Gr) : Nat → List (List Int)
  | 0 => (upto G.labels.length).map fun v => [v]
  | k + 1 => (rowV G k).flatMap (growL G)
theorem canon_one (G : Gr) (v : Int) : canonV G [v] = hasV G v := by
  have := canon_snoc G [] v
  rw [List.nil_append] at this
  rw [this]
  have h1 : canonV G [] = true := canonV_yes fun i v h => by simp at h
  rw [h1, Bool.true_and]; rfl
theorem mem_rowV {G : Gr} (hG : G.Ok) : ∀ (k : Nat) {x : List Int}, x ∈ rowV G k ↔ canonV G x = true ∧ x.length = k + 1
  | 0, x => by
    unfold rowV
    rw [List.mem_map]
    constructor
    · rintro ⟨v, hv, rfl⟩
      rw [canon_one]
      have := mem_upto.1 hv
      exact ⟨hasV_yes this.1 this.2, rfl⟩
    · rintro ⟨h1, h2⟩
      obtain ⟨v, rfl⟩ := List.length_eq_one_iff.1 h2
      rw [canon_one] at h1
      refine ⟨v, mem_upto.2 ?_, rfl⟩
      unfold hasV at h1
      simpa using h1
  | k + 1, x => by
    unfold rowV
    rw [List.mem_flatMap]
    constructor
    · rintro ⟨l, hl, hx⟩
      obtain ⟨h1, h2⟩ := (mem_rowV hG k).1 hl
      unfold growL at hx
      obtain ⟨v, hv, rfl⟩ := List.mem_map.1 hx
      have := (grow_mem hG).1 hv
      rw [canon_snoc, this.1, this.2]
      exact ⟨rfl, by rw [List.length_append, h2]; rfl⟩
    · rintro ⟨h1, h2⟩
      have hne : x ≠ [] := fun e => by rw [e] at h2; simp at h2
      have hx := List.dropLast_concat_getLast hne
      generalize x.getLast hne = v at hx
      generalize x.dropLast = l at hx
      subst hx
      rw [canon_snoc, Bool.and_eq_true] at h1
      rw [List.length_append, List.length_singleton] at h2
      refine ⟨l, (mem_rowV hG k).2 ⟨h1.1, by omega⟩, ?_⟩
      unfold growL
      exact List.mem_map.2 ⟨v, (grow_mem hG).2 h1, rfl⟩
theorem list_setOf (G : Gr) (x : List Int) : listV G (setOf x) = listV G x := listV_congr (setOf_spec x).2
theorem linked_has {G : Gr} {l : List Int} (h : linkedV G l = true) {x : Int} (hx : x ∈ l) : hasV G x = true := by
  obtain ⟨i, hi, rfl⟩ := List.mem_iff_getElem.1 hx
  exact (linkAt_iff.1 (linkedV_at h (List.getElem?_eq_getElem hi))).1
end Go.Proofs.YtaadeobcnamgdaaGreatDoor
namespace Go.Proofs.YtaadeobcnamgdaaGreatDoor
open Go.Gr
/-- what is beside a list, as the document has it -/
def rnextV (G : Gr) (l : List Int) (k : Nat) : List Int := (upto k).filter fun v => decide (l = []) || candB G l v
where candB (G : Gr) (l : List Int) (v : Int) : Bool := !decide (v ∈ l) && l.any (besP G.edges v)
theorem rnext_eq {G : Gr} (hG : G.Ok) (l : List Int) : rnextV G l G.labels.length = nextV G l := by
  refine rise_eq ((upto_rise _).sublist List.filter_sublist) (next_rise G l) fun x => ?_
  unfold rnextV
  rw [List.mem_filter, mem_upto]
  by_cases hl : l = []
  · unfold nextV
    rw [if_pos hl, mem_upto]
    simp [hl]
  · rw [next_mem hl]
    unfold rnextV.candB
    simp only [hl, decide_false, Bool.false_or, Bool.and_eq_true, Bool.not_eq_true', decide_eq_false_iff_not, any_bes]
    constructor
    · rintro ⟨h1, h2, u, hu, h3⟩
      have := (edge_has hG h3).1
      unfold hasV at this
      exact ⟨⟨u, hu, (mem_nearI hG).2 ⟨by simpa using this, h1.1, h1.2, by rw [turn_sym]; exact h3⟩⟩, h2⟩
    · rintro ⟨⟨u, hu, h3⟩, h2⟩
      obtain ⟨g1, g2, g3, g4⟩ := (mem_nearI hG).1 h3
      exact ⟨⟨g2, g3⟩, h2, u, hu, by rw [turn_sym]; exact g4⟩
end Go.Proofs.YtaadeobcnamgdaaGreatDoor
end

section
/- level: plain laws: the kept lists, level by level. -/
namespace Go.Proofs.YtaadeobcnamgdaaGreatDoor
open Go.Gr
/-- number by number -/
def befL : List Int → List Int → Bool
  | [], [] => false
  | [], _ :: _ => true
  | _ :: _, [] => false
  | x :: a, y :: b => decide (x < y) || (decide (x = y) && befL a b)
theorem bef_snoc : ∀ {a b : List Int}, a.length = b.length → befL a b = true → ∀ (x y : List Int), befL (a ++ x) (b ++ y) = true
  | [], [], _, h, _, _ => by simp [befL] at h
  | [], _ :: _, e, _, _, _ => by simp at e
  | _ :: _, [], e, _, _, _ => by simp at e
  | p :: a, q :: b, e, h, x, y => by
    simp only [befL, List.cons_append, Bool.or_eq_true, Bool.and_eq_true, decide_eq_true_eq] at h ⊢
    rcases h with h | ⟨h1, h2⟩
    · exact .inl h
    · exact .inr ⟨h1, bef_snoc (by simpa using e) h2 x y⟩
theorem bef_same : ∀ (a : List Int) {x y : Int}, x < y → befL (a ++ [x]) (a ++ [y]) = true
  | [], x, y, h => by simp [befL, h]
  | p :: a, x, y, h => by
    simp only [befL, List.cons_append, Bool.or_eq_true, Bool.and_eq_true, decide_eq_true_eq]
    exact .inr ⟨trivial, bef_same a h⟩
/-- what a kept list grows to -/
def growP (G : Gr) (ps : List Int → Bool) (l : List Int) : List (List Int) := (growL G l).filter ps
def rowP (G : Gr) (ps : List Int → Bool) : Nat → List (List Int)
  | 0 => (rowV G 0).filter ps
  | k + 1 => (rowP G ps k).flatMap (growP G ps)
/-- all that a list begins with passes -/
def allP (ps : List Int → Bool) (l : List Int) : Bool := (List.range l.length).all fun n => ps (l.take (n + 1))
theorem allP_snoc (ps : List Int → Bool) (l : List Int) (v : Int) : allP ps (l ++ [v]) = (allP ps l && ps (l ++ [v])) := by
  unfold allP
  rw [List.length_append, List.length_singleton, List.range_succ, List.all_append, List.all_cons, List.all_nil, Bool.and_true]
  congr 1
  · rw [Bool.eq_iff_iff, List.all_eq_true, List.all_eq_true]
    have h : ∀ n ∈ List.range l.length, (l ++ [v]).take (n + 1) = l.take (n + 1) := fun n hn => List.take_append_of_le_length (by have := List.mem_range.1 hn; omega)
    exact ⟨fun g n hn => by rw [← h n hn]; exact g n hn, fun g n hn => by rw [h n hn]; exact g n hn⟩
  · rw [List.take_of_length_le (by simp)]
theorem mem_rowP {G : Gr} (hG : G.Ok) {ps : List Int → Bool} : ∀ (k : Nat) {x : List Int}, x ∈ rowP G ps k ↔ canonV G x = true ∧ x.length = k + 1 ∧ allP ps x = true
  | 0, x => by
    unfold rowP
    rw [List.mem_filter, mem_rowV hG]
    constructor
    · rintro ⟨⟨h1, h2⟩, h3⟩
      obtain ⟨v, rfl⟩ := List.length_eq_one_iff.1 h2
      exact ⟨h1, h2, by simpa [allP] using h3⟩
    · rintro ⟨h1, h2, h3⟩
      obtain ⟨v, rfl⟩ := List.length_eq_one_iff.1 h2
      exact ⟨⟨h1, h2⟩, by simpa [allP] using h3⟩
  | k + 1, x => by
    unfold rowP
    rw [List.mem_flatMap]
    unfold growP growL
    constructor
    · rintro ⟨l, hl, hx⟩
      obtain ⟨h1, h2, h3⟩ := (mem_rowP hG k).1 hl
      obtain ⟨hx, hp⟩ := List.mem_filter.1 hx
      obtain ⟨v, hv, rfl⟩ := List.mem_map.1 hx
      have := (grow_mem hG).1 hv
      rw [canon_snoc, this.1, this.2, allP_snoc, h3, hp]
      exact ⟨rfl, by rw [List.length_append, h2]; rfl, rfl⟩
    · rintro ⟨h1, h2, h3⟩
      have hne : x ≠ [] := fun e => by rw [e] at h2; simp at h2
      have hx := List.dropLast_concat_getLast hne
      generalize x.getLast hne = v at hx
      generalize x.dropLast = l at hx
      subst hx
      rw [canon_snoc, Bool.and_eq_true] at h1
      rw [allP_snoc, Bool.and_eq_true] at h3
      rw [List.length_append, List.length_singleton] at h2
      exact ⟨l, (mem_rowP hG k).2 ⟨h1.1, by omega, h3.1⟩, List.mem_filter.2 ⟨List.mem_map.2 ⟨v, (grow_mem hG).2 h1, rfl⟩, h3.2⟩⟩
theorem grow_rise (G : Gr) (l : List Int) : (growV G l).Pairwise (· < ·) := by
  unfold growV
  split
  · exact (next_rise G l).sublist List.filter_sublist
  · exact .nil
theorem growP_rise (G : Gr) (ps : List Int → Bool) (l : List Int) : (growP G ps l).Pairwise fun a b => befL a b = true := by
  unfold growP growL
  refine List.Pairwise.sublist List.filter_sublist ?_
  rw [List.pairwise_map]
  exact (grow_rise G l).imp fun h => bef_same l h
/-- a level's lists rise -/
theorem rowP_rise {G : Gr} (hG : G.Ok) (ps : List Int → Bool) : ∀ k, (rowP G ps k).Pairwise fun a b => befL a b = true
  | 0 => by
    unfold rowP rowV
    refine List.Pairwise.sublist List.filter_sublist ?_
    rw [List.pairwise_map]
    exact (upto_rise _).imp fun h => by simp [befL, h]
  | k + 1 => by
    unfold rowP
    rw [List.pairwise_flatMap]
    refine ⟨fun l _ => growP_rise G ps l, ?_⟩
    refine List.Pairwise.imp_of_mem ?_ (rowP_rise hG ps k)
    intro a b ha hb hab x hx y hy
    unfold growP growL at hx hy
    obtain ⟨v, _, rfl⟩ := List.mem_map.1 (List.mem_filter.1 hx).1
    obtain ⟨u, _, rfl⟩ := List.mem_map.1 (List.mem_filter.1 hy).1
    exact bef_snoc (by rw [((mem_rowP hG k).1 ha).2.1, ((mem_rowP hG k).1 hb).2.1]) hab _ _
theorem bef_ne {a b : List Int} (h : befL a b = true) : a ≠ b := by
  rintro rfl
  induction a with
  | nil => simp [befL] at h
  | cons x a ih => simp [befL] at h; exact ih h
/-- no set is there twice -/
theorem rowP_sets {G : Gr} (hG : G.Ok) {ps : List Int → Bool} {k : Nat} {a b : List Int} (ha : a ∈ rowP G ps k) (hb : b ∈ rowP G ps k) (e : setOf a = setOf b) : a = b := by
  have h1 := list_self hG ((mem_rowP hG k).1 ha).1
  have h2 := list_self hG ((mem_rowP hG k).1 hb).1
  rw [← list_setOf] at h1 h2
  rw [e, h2] at h1
  exact (Option.some.inj h1).symm
theorem nd_len {α : Type} : ∀ {l m : List α}, l.Nodup → (∀ x ∈ l, x ∈ m) → l.length ≤ m.length
  | [], _, _, _ => Nat.zero_le _
  | x :: l, m, hn, hs => by
    obtain ⟨a, b, rfl⟩ := List.append_of_mem (hs x List.mem_cons_self)
    rw [List.nodup_cons] at hn
    have := nd_len (l := l) (m := a ++ b) hn.2 fun y hy => by
      have h := hs y (List.mem_cons_of_mem _ hy)
      rw [List.mem_append, List.mem_cons] at h
      rw [List.mem_append]
      rcases h with h | h | h
      · exact .inl h
      · exact absurd (h ▸ hy) hn.1
      · exact .inr h
    rw [List.length_append] at this
    rw [List.length_cons, List.length_append, List.length_cons]
    omega
theorem rowP_len {G : Gr} (hG : G.Ok) (ps : List Int → Bool) (k : Nat) : (rowP G ps k).length ≤ 2 ^ G.labels.length := by
  have hs : ((rowP G ps k).map setOf).Nodup := by
    unfold List.Nodup
    rw [List.pairwise_map]
    refine List.Pairwise.imp_of_mem ?_ (rowP_rise hG ps k)
    exact fun ha hb hab e => bef_ne hab (rowP_sets hG ha hb e)
  have hl := nd_len hs (m := (List.range (2 ^ G.labels.length)).map (pick (upto G.labels.length))) fun p hp => by
    obtain ⟨x, hx, rfl⟩ := List.mem_map.1 hp
    have hc := ((mem_rowP hG k).1 hx).1
    have hlk := canon_linked hG hc
    have hsub := rise_sub (upto_rise G.labels.length) (setOf_spec x).1 fun y hy => by
      have := linked_has hlk ((setOf_spec x).2 y |>.1 hy)
      unfold hasV at this
      exact mem_upto.2 (by simpa using this)
    obtain ⟨m, hm, he⟩ := pick_all hsub
    rw [upto_len] at hm
    exact List.mem_map.2 ⟨m, List.mem_range.2 hm, he⟩
  simpa using hl
theorem rowP_empty {G : Gr} {ps : List Int → Bool} {k : Nat} (h : rowP G ps k = []) : ∀ m, k ≤ m → rowP G ps m = [] := by
  intro m hm
  induction m with
  | zero => rw [show k = 0 by omega] at h; exact h
  | succ m ih =>
    rcases Nat.lt_or_ge m k with hk | hk
    · rw [show m + 1 = k by omega]; exact h
    · unfold rowP; rw [ih hk]; rfl
/-- all levels -/
def rowsP (G : Gr) (ps : List Int → Bool) : Nat → List (List (List Int))
  | 0 => []
  | d + 1 => if rowP G ps d = [] then rowsP G ps d else rowsP G ps d ++ [rowP G ps d]
theorem rowsP_full {G : Gr} {ps : List Int → Bool} : ∀ {d : Nat}, (∀ k, k < d → rowP G ps k ≠ []) → rowsP G ps d = (List.range d).map (rowP G ps)
  | 0, _ => rfl
  | d + 1, h => by
    unfold rowsP
    rw [if_neg (h d (by omega)), rowsP_full fun k hk => h k (by omega), List.range_succ, List.map_append]; rfl
theorem rowsP_stop {G : Gr} {ps : List Int → Bool} {k : Nat} (h : rowP G ps k = []) : ∀ {d : Nat}, k ≤ d → rowsP G ps d = rowsP G ps k := by
  intro d hd
  induction d with
  | zero => rw [show k = 0 by omega]
  | succ d ih =>
    rcases Nat.lt_or_ge d k with hk | hk
    · rw [show d + 1 = k by omega]
    · conv => lhs; unfold rowsP
      rw [if_pos (rowP_empty h d hk), ih hk]
/-- how many levels there are -/
theorem rowsP_case (G : Gr) (ps : List Int → Bool) (d : Nat) : ∃ m, m ≤ d ∧ rowsP G ps d = (List.range m).map (rowP G ps) ∧ (∀ k, k < m → rowP G ps k ≠ []) ∧ (m < d → rowP G ps m = []) := by
  by_cases h : ∃ k, k < d ∧ rowP G ps k = []
  · obtain ⟨k, hk, he⟩ := h
    let q : Nat → Bool := fun k => decide (rowP G ps k = [])
    have hx : ∃ m, rowP G ps m = [] ∧ m ≤ k ∧ ∀ j, j < m → rowP G ps j ≠ [] := by
      clear hk
      induction k with
      | zero => exact ⟨0, he, Nat.le_refl _, fun j hj => absurd hj (Nat.not_lt_zero _)⟩
      | succ k ih =>
        by_cases hz : ∃ j, j ≤ k ∧ rowP G ps j = []
        · obtain ⟨j, hj, hz⟩ := hz
          have hz' := rowP_empty hz k hj
          obtain ⟨m, h1, h2, h3⟩ := ih hz'
          exact ⟨m, h1, by omega, h3⟩
        · exact ⟨k + 1, he, Nat.le_refl _, fun j hj e => hz ⟨j, by omega, e⟩⟩
    obtain ⟨m, h1, h2, h3⟩ := hx
    exact ⟨m, by omega, by rw [rowsP_stop h1 (show m ≤ d by omega), rowsP_full h3], h3, fun _ => h1⟩
  · exact ⟨d, Nat.le_refl _, rowsP_full fun k hk e => h ⟨k, hk, e⟩, fun k hk e => h ⟨k, hk, e⟩, fun h => absurd h (Nat.lt_irrefl _)⟩
end Go.Proofs.YtaadeobcnamgdaaGreatDoor
end

section
/- level: plain laws: jobs: the graph of words, what passes, how many lists there are. -/
namespace Go.Proofs.YtaadeobcnamgdaaGreatDoor
open Go.Gr
/-- the graph, or its line graph -/
def wordsG (G : Gr) (e : Bool) : Gr := if e = true then lnGr G else G
theorem words_ok {G : Gr} (hG : G.Ok) (hn : G.labels.length ≤ 10) (hm : G.edges.length ≤ 30) (e : Bool) : (wordsG G e).Ok := by
  unfold wordsG
  split
  · have := pairs_small hG hn hm
    exact lnGr_ok hG (by omega) (by omega)
  · exact hG
theorem words_len (G : Gr) (e : Bool) : (wordsG G e).labels.length = if e = true then G.edges.length else G.labels.length := by
  unfold wordsG
  cases e with
  | true => rw [if_pos rfl, if_pos rfl]; exact List.length_replicate
  | false => rfl
theorem words_lof {G : Gr} (hG : G.Ok) (hn : G.labels.length ≤ 10) (hm : G.edges.length ≤ 30) : lofY G = .tuple [dG (wordsG G true), .nili] := lofY_small hG hn hm
/-- does a program that is right keep a pattern? -/
def keepsG (l : List Opp) (p : Pt) : Bool := (pErr p).isNone && l.all fun o => holdsO o p
/-- does a list's pattern pass? -/
def psJ (G : Gr) (e : Bool) (l : List Opp) (x : List Int) : Bool := linkedV (wordsG G e) x && if e = true then decide ((vertsOf (endsOf G.edges x)).length ≤ 8) && keepsG l (edgeP G x) else decide (x.length ≤ 8) && keepsG l (vertP G x)
/-- how many lists there are up to a level -/
def sumP (G : Gr) (ps : List Int → Bool) (m : Nat) : Nat := ((List.range m).map fun k => (rowP G ps k).length).sum
theorem sumP_step (G : Gr) (ps : List Int → Bool) (m : Nat) : sumP G ps (m + 1) = sumP G ps m + (rowP G ps m).length := by
  unfold sumP
  rw [List.range_succ, List.map_append, List.sum_append]; simp
theorem sumP_le {G : Gr} (hG : G.Ok) (ps : List Int → Bool) : ∀ m, sumP G ps m ≤ m * 2 ^ G.labels.length
  | 0 => by simp [sumP]
  | m + 1 => by
    rw [sumP_step, Nat.succ_mul]
    have := sumP_le hG ps m
    have := rowP_len hG ps m
    omega
theorem sumP_mono (G : Gr) (ps : List Int → Bool) {m d : Nat} (h : m ≤ d) : sumP G ps m ≤ sumP G ps d := by
  induction d with
  | zero => rw [show m = 0 by omega]; exact Nat.le_refl _
  | succ d ih =>
    rw [sumP_step]
    rcases Nat.lt_or_ge d m with g | g
    · rw [show m = d + 1 by omega, sumP_step]; exact Nat.le_refl _
    · have := ih g; omega
/-- on a small graph there are few -/
theorem sumP_few {G : Gr} (hG : G.Ok) (ps : List Int → Bool) (hn : G.labels.length ≤ 8) {m : Nat} (hm : m ≤ 8) : sumP G ps m ≤ 2048 := by
  have h1 := sumP_le hG ps m
  have h2 : 2 ^ G.labels.length ≤ 256 := Nat.le_trans (Nat.pow_le_pow_right (by decide) hn) (by decide)
  have h3 : m * 2 ^ G.labels.length ≤ 8 * 256 := Nat.mul_le_mul hm h2
  omega
/-- levels at two depths are alike as far as both go -/
theorem rows_at {G : Gr} {ps : List Int → Bool} {d k : Nat} {R : List (List Int)} (h : (rowsP G ps d)[k]? = some R) : R = rowP G ps k := by
  obtain ⟨m, _, e, _, _⟩ := rowsP_case G ps d
  rw [e, List.getElem?_map] at h
  rcases Nat.lt_or_ge k m with g | g
  · rw [List.getElem?_range g] at h; exact (Option.some.inj h).symm
  · rw [List.getElem?_eq_none (by rw [List.length_range]; exact g)] at h; cases h
theorem rows_len (G : Gr) (ps : List Int → Bool) (d : Nat) : (rowsP G ps d).length ≤ d := by
  obtain ⟨m, h, e, _, _⟩ := rowsP_case G ps d
  rw [e, List.length_map, List.length_range]; exact h
/-- what comes behind the last level -/
theorem rows_end {G : Gr} {ps : List Int → Bool} {d k : Nat} (h : (rowsP G ps d).length = k) (hd : k < d) : rowP G ps k = [] := by
  obtain ⟨m, _, e, _, h2⟩ := rowsP_case G ps d
  rw [e, List.length_map, List.length_range] at h
  subst h; exact h2 hd
theorem rows_one (G : Gr) (ps : List Int → Bool) : rowsP G ps 1 = if rowP G ps 0 = [] then [] else [rowP G ps 0] := by
  unfold rowsP
  split <;> rfl
/-- is a list kept? -/
def keptL (G : Gr) (ps : List Int → Bool) (l : List Int) : Bool := decide (l ≠ []) && canonV G l && allP ps l
theorem kept_iff {G : Gr} (hG : G.Ok) {ps : List Int → Bool} {l : List Int} : keptL G ps l = true ↔ ∃ k, l ∈ rowP G ps k := by
  unfold keptL
  rw [Bool.and_eq_true, Bool.and_eq_true, decide_eq_true_eq]
  constructor
  · rintro ⟨⟨h0, h1⟩, h2⟩
    refine ⟨l.length - 1, (mem_rowP hG _).2 ⟨h1, ?_, h2⟩⟩
    have : l.length ≠ 0 := fun e => h0 (List.eq_nil_of_length_eq_zero e)
    omega
  · rintro ⟨k, hk⟩
    obtain ⟨h1, h2, h3⟩ := (mem_rowP hG k).1 hk
    exact ⟨⟨fun e => by rw [e] at h2; simp at h2, h1⟩, h3⟩
end Go.Proofs.YtaadeobcnamgdaaGreatDoor
end
