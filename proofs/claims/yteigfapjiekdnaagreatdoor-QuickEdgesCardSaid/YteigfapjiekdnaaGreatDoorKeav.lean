/- Merged: Cpb Cpc Cpd Imd. -/
import Derived.Test.YteigfapjiekdnaaGreatDoorKeau
import Derived.Test.YteigfapjiekdnaaGreatDoorKeaq
section
/- Patterns' own order, search's orders, classes. -/
namespace Go.Gr
open Go.Proofs.YteigfapjiekdnaaGreatDoor
/-! ### which pattern comes ahead -/
/-- a whole order, told by a number -/
structure TOrd {α : Type} (f : α → α → Int) : Prop where
  eq0 : ∀ x y, f x y = 0 ↔ x = y
  anti : ∀ x y, f y x < 0 ↔ 0 < f x y
  trans : ∀ x y z, f x y < 0 → f y z < 0 → f x z < 0
theorem torI : TOrd cmpI := ⟨cmpI_eq, fun x y => by rw [cmpI_anti]; omega, fun x y z => by rw [cmpI_lt, cmpI_lt, cmpI_lt]; omega⟩
theorem torF {α : Type} {f : α → α → Int} (h : TOrd f) : TOrd (cmpF f) := by
  refine ⟨fun x => ?_, fun x => ?_, fun x => ?_⟩
  · induction x with
    | nil => intro y; cases y <;> simp [cmpF]
    | cons a x ih =>
      intro y
      cases y with
      | nil => simp [cmpF]
      | cons b y =>
        rw [cmpF_cons]
        by_cases e : f a b = 0
        · rw [if_pos e, ih y]
          have := (h.eq0 a b).1 e
          subst this; simp
        · rw [if_neg e]
          have : a ≠ b := fun hh => e ((h.eq0 a b).2 hh)
          simp [e, this]
  · induction x with
    | nil => intro y; cases y <;> simp [cmpF]
    | cons a x ih =>
      intro y
      cases y with
      | nil => simp [cmpF]
      | cons b y =>
        rw [cmpF_cons, cmpF_cons]
        by_cases e : f a b = 0
        · have := (h.eq0 a b).1 e
          subst this
          rw [if_pos e, if_pos e]; exact ih y
        · have e2 : f b a ≠ 0 := fun hh => e ((h.eq0 a b).2 ((h.eq0 b a).1 hh).symm)
          rw [if_neg e, if_neg e2]; exact h.anti a b
  · induction x with
    | nil => intro y z; cases y <;> cases z <;> simp [cmpF]
    | cons a x ih =>
      intro y z
      cases y with
      | nil => simp [cmpF]
      | cons b y =>
        cases z with
        | nil => simp [cmpF]
        | cons c z =>
          rw [cmpF_cons, cmpF_cons, cmpF_cons]
          by_cases e1 : f a b = 0
          · have := (h.eq0 a b).1 e1
            subst this
            rw [if_pos e1]
            by_cases e2 : f a c = 0
            · rw [if_pos e2, if_pos e2]; exact ih y z
            · rw [if_neg e2, if_neg e2]; exact fun _ h => h
          · rw [if_neg e1]
            by_cases e2 : f b c = 0
            · have := (h.eq0 b c).1 e2
              subst this
              rw [if_pos e2, if_neg e1]; exact fun h _ => h
            · rw [if_neg e2]
              intro h1 h2
              have h3 := h.trans _ _ _ h1 h2
              rw [if_neg (by omega)]; exact h3
theorem cmpF_append {α : Type} {f : α → α → Int} (h : TOrd f) : ∀ {a b : List α} (c d : List α), a.length = b.length → cmpF f (a ++ c) (b ++ d) = if cmpF f a b = 0 then cmpF f c d else cmpF f a b
  | [], [], c, d, _ => by simp [cmpF]
  | x :: a, y :: b, c, d, hl => by
    rw [List.cons_append, List.cons_append, cmpF_cons, cmpF_cons, cmpF_append h (a := a) (b := b) c d (by simpa using hl)]
    by_cases e : f x y = 0
    · simp [e]
    · simp [e]
  | [], _ :: _, _, _, hl => by simp at hl
  | _ :: _, [], _, _, hl => by simp at hl
/-- a pattern's words -/
def keyP (p : Pt) : List Int := (p.labels.length : Int) :: (p.labels ++ (p.edges.length : Int) :: p.edges.flatMap fun e => [e.a, e.b])
theorem cmpF_edges : ∀ E F : List Edg, cmpF cmpE E F = cmpF cmpI (E.flatMap fun e => [e.a, e.b]) (F.flatMap fun e => [e.a, e.b])
  | [], [] => rfl
  | [], _ :: _ => rfl
  | _ :: _, [] => rfl
  | x :: E, y :: F => by
    simp only [List.flatMap_cons, List.cons_append, List.nil_append, cmpF_cons]
    rw [cmpF_edges E F]
    unfold cmpE
    by_cases h : cmpI x.a y.a = 0
    · simp [h]
    · simp [h]
theorem cmpP_key (p q : Pt) : cmpP p q = cmpF cmpI (keyP p) (keyP q) := by
  unfold cmpP keyP orF
  rw [cmpF_cons]
  by_cases h1 : cmpI (p.labels.length : Int) (q.labels.length : Int) = 0
  · rw [if_pos h1, if_pos h1, cmpF_append torI _ _ (by have := (cmpI_eq _ _).1 h1; omega)]
    unfold orF
    by_cases h2 : cmpF cmpI p.labels q.labels = 0
    · rw [if_pos h2, if_pos h2, cmpF_cons, ← cmpF_edges]
      unfold orF
      by_cases h3 : cmpI (p.edges.length : Int) (q.edges.length : Int) = 0
      · rw [if_pos h3, if_pos h3]; unfold orF
        by_cases h4 : cmpF cmpE p.edges q.edges = 0
        · rw [if_pos h4, h4]; rfl
        · rw [if_neg h4]
      · rw [if_neg h3, if_neg h3]
    · rw [if_neg h2, if_neg h2]
  · rw [if_neg h1, if_neg h1]
theorem flat_inj : ∀ {E F : List Edg}, (E.flatMap fun e => [e.a, e.b]) = (F.flatMap fun e => [e.a, e.b]) → E = F
  | [], [], _ => rfl
  | [], _ :: _, h => by simp at h
  | _ :: _, [], h => by simp at h
  | x :: E, y :: F, h => by
    simp only [List.flatMap_cons, List.cons_append, List.nil_append, List.cons.injEq] at h
    rw [flat_inj h.2.2]
    cases x; cases y; simp only at h; simp [h.1, h.2.1]
theorem keyP_inj {p q : Pt} (h : keyP p = keyP q) : p = q := by
  unfold keyP at h
  rw [List.cons.injEq] at h
  obtain ⟨h1, h2⟩ := List.append_inj h.2 (by have := h.1; omega)
  rw [List.cons.injEq] at h2
  cases p; cases q
  simp only at h1 h2
  simp [h1, flat_inj h2.2]
theorem torP : TOrd cmpP := ⟨fun x y => by
    rw [cmpP_key, (torF torI).eq0]; exact ⟨keyP_inj, fun h => by rw [h]⟩, fun x y => by
    rw [cmpP_key, cmpP_key]; exact (torF torI).anti _ _, fun x y z => by
    rw [cmpP_key, cmpP_key, cmpP_key]; exact (torF torI).trans _ _ _⟩
instance : DecidableEq Pt := fun p q => decidable_of_iff (cmpP p q = 0) (torP.eq0 p q)
section
variable {α : Type} {f : α → α → Int} (h : TOrd f)
include h
theorem TOrd.not_lt {x y : α} : ¬ f x y < 0 ↔ f y x ≤ 0 := by
  rw [h.anti y x]; omega
theorem TOrd.le_of {x y : α} (hxy : f x y ≤ 0) : f x y < 0 ∨ x = y := by
  rcases Int.lt_or_eq_of_le hxy with h1 | h1
  · exact .inl h1
  · exact .inr ((h.eq0 _ _).1 h1)
theorem TOrd.self (x : α) : f x x = 0 := (h.eq0 x x).2 rfl
theorem TOrd.le_trans {x y z : α} (h1 : f x y ≤ 0) (h2 : f y z ≤ 0) : f x z ≤ 0 := by
  rcases h.le_of h1 with h1 | rfl
  · rcases h.le_of h2 with h2 | rfl
    · exact Int.le_of_lt (h.trans _ _ _ h1 h2)
    · omega
  · exact h2
theorem TOrd.antisymm {x y : α} (h1 : f x y ≤ 0) (h2 : f y x ≤ 0) : x = y := by
  rcases h.le_of h1 with h1 | rfl
  · have := (h.anti y x).1 h1; omega
  · rfl
end
/-- what lies in order comes ahead of all that it may be laid to -/
theorem sorted_least : ∀ {S T : List Int}, S.Pairwise (· ≤ ·) → T.Perm S → cmpF cmpI S T ≤ 0
  | [], T, _, hp => by rw [hp.eq_nil]; exact Int.le_refl _
  | s :: S, [], _, hp => by have := hp.length_eq; simp at this
  | s :: S, t :: T, hs, hp => by
    obtain ⟨h1, h2⟩ := List.pairwise_cons.1 hs
    rw [cmpF_cons]
    by_cases e : s = t
    · subst e
      rw [if_pos ((cmpI_eq s s).2 rfl)]
      exact sorted_least h2 ((List.perm_cons s).1 hp)
    · have : t ∈ S := by
        have := hp.mem_iff.1 (List.mem_cons_self (a := t) (l := T))
        rcases List.mem_cons.1 this with h | h
        · exact absurd h.symm e
        · exact h
      have hlt : s < t := by have := h1 t this; omega
      rw [if_neg (by rw [cmpI_eq]; exact e)]
      have := (cmpI_lt s t).2 hlt; omega
/-- patterns of as many vertices: the labels come first -/
theorem cmpP_labels {p q : Pt} (hl : p.labels.length = q.labels.length) (h : cmpF cmpI p.labels q.labels < 0) : cmpP p q < 0 := by
  unfold cmpP
  rw [show cmpI (p.labels.length : Int) (q.labels.length : Int) = 0 from (cmpI_eq _ _).2 (by omega)]
  unfold orF; rw [if_pos rfl]; unfold orF
  rw [if_neg (by omega)]; exact h

/-! ### the orders that search goes through -/
theorem mem_ordL (fr to : List Int) : ∀ (k : Nat) (ah : List Nat) (o : List Int), o ∈ ordL fr to k ah ↔ ∃ t : List Nat, t.length = k ∧ o = (ah ++ t).map (fun j : Nat => (j : Int)) ∧
    ∀ i j, t[i]? = some j → j ∉ ah ++ t.take i ∧ j < to.length ∧ to[j]? = fr[ah.length + i]?
  | 0, ah, o => by
    simp only [ordL, List.mem_singleton]
    constructor
    · rintro rfl; exact ⟨[], rfl, by simp, by simp⟩
    · rintro ⟨t, ht, rfl, _⟩
      rw [List.eq_nil_of_length_eq_zero ht]; simp
  | k + 1, ah, o => by
    simp only [ordL, List.mem_flatMap, List.mem_filter, List.mem_range, Bool.and_eq_true, decide_eq_true_eq, Bool.not_eq_true']
    constructor
    · rintro ⟨j, ⟨hj, hc, he⟩, ho⟩
      obtain ⟨t, ht, rfl, hh⟩ := (mem_ordL fr to k (ah ++ [j]) o).1 ho
      refine ⟨j :: t, by simp [ht], by simp, fun i j' hi => ?_⟩
      cases i with
      | zero =>
        simp at hi; subst hi
        refine ⟨by simpa using hc, hj, by simpa using he⟩
      | succ i =>
        have := hh i j' (by simpa using hi)
        refine ⟨by simpa using this.1, this.2.1, ?_⟩
        rw [this.2.2, List.length_append, List.length_singleton, Nat.add_assoc, Nat.add_comm 1 i]
    · rintro ⟨t, ht, rfl, hh⟩
      cases t with
      | nil => simp at ht
      | cons j t =>
        have h0 := hh 0 j rfl
        refine ⟨j, ⟨h0.2.1, by simpa using h0.1, by simpa using h0.2.2⟩, (mem_ordL fr to k (ah ++ [j]) _).2 ⟨t, by simpa using ht, by simp, fun i j' hi => ?_⟩⟩
        have := hh (i + 1) j' (by simpa using hi)
        refine ⟨by simpa using this.1, this.2.1, ?_⟩
        rw [this.2.2, List.length_append, List.length_singleton, Nat.add_assoc, Nat.add_comm 1 i]
theorem mem_ords {fr to : List Int} {n : Nat} (ht : to.length = n) {o : List Int} : o ∈ ordL fr to n [] ↔ IsOrd n o ∧ ∀ i, i < n → to[pl o i]? = fr[i]? := by
  rw [mem_ordL]
  constructor
  · rintro ⟨t, hl, rfl, hh⟩
    simp only [List.nil_append, List.length_nil, Nat.zero_add] at hh ⊢
    refine ⟨⟨by simp [hl], fun x hx => ?_, ?_⟩, fun i hi => ?_⟩
    · obtain ⟨j, hj, rfl⟩ := List.mem_map.1 hx
      obtain ⟨i, hi, rfl⟩ := List.mem_iff_getElem.1 hj
      have := (hh i _ (List.getElem?_eq_getElem hi)).2.1
      omega
    · refine List.pairwise_map.2 ?_
      rw [List.pairwise_iff_getElem]
      intro i j hi hj hij e
      have := (hh j _ (List.getElem?_eq_getElem hj)).1
      refine this (List.mem_take_iff_getElem.2 ⟨i, by omega, ?_⟩)
      omega
    · have hx := List.getElem?_eq_getElem (l := t) (i := i) (by omega)
      have := (hh i _ hx).2.2
      rw [← this]
      congr 1
      unfold pl
      rw [List.getElem?_map, hx]; simp
  · rintro ⟨ho, hh⟩
    refine ⟨o.map Int.toNat, by simp [ho.1], ?_, fun i j hi => ?_⟩
    · rw [List.nil_append, List.map_map]
      refine (List.map_id _).symm.trans (List.map_congr_left fun x hx => ?_)
      have := ho.2.1 x hx
      simp only [Function.comp_apply, id]; omega
    · have hin : i < n := by
        have := (List.getElem?_eq_some_iff.1 hi).1
        rw [List.length_map, ho.1] at this; exact this
      rw [List.getElem?_map, pl_at ho hin] at hi
      simp only [Option.map_some, Int.toNat_natCast, Option.some.injEq] at hi
      subst hi
      refine ⟨?_, by rw [ht]; exact pl_lt ho hin, by simpa using hh i hin⟩
      rw [List.nil_append]
      intro hm
      obtain ⟨k, hk, e⟩ := List.mem_take_iff_getElem.1 hm
      rw [List.getElem_map] at e
      have hkn : k < n := by omega
      have := pl_at ho hkn
      have hkl : k < o.length := by rw [ho.1]; exact hkn
      rw [List.getElem?_eq_getElem hkl] at this
      have e2 : pl o k = pl o i := by
        rw [Option.some.inj this] at e
        simpa using e
      have := pl_inj ho hkn hin e2; omega
/-- .. how many there are where all may be -/
def facN : Nat → Nat
  | 0 => 1
  | n + 1 => (n + 1) * facN n
theorem flatMap_len {α β : Type} {l : List α} {f : α → List β} {k : Nat} (h : ∀ x ∈ l, (f x).length = k) : (l.flatMap f).length = l.length * k := by
  induction l with
  | nil => simp
  | cons x l ih =>
    rw [List.flatMap_cons, List.length_append, h x (by simp), ih fun y hy => h y (by simp [hy]), List.length_cons, Nat.add_mul]; omega
theorem filter_len2 {α : Type} (p : α → Bool) : ∀ l : List α, l.length = (l.filter p).length + (l.filter fun x => !p x).length
  | [] => rfl
  | x :: l => by
    have := filter_len2 p l
    cases h : p x with
    | true => rw [List.filter_cons_of_pos h, List.filter_cons_of_neg (by simp [h]), List.length_cons, List.length_cons]; omega
    | false => rw [List.filter_cons_of_neg (by simp [h]), List.filter_cons_of_pos (by simp [h]), List.length_cons, List.length_cons]; omega
/-! ### things in classes of as many each -/
theorem classes {α β : Type} [DecidableEq β] (f : α → β) (k : Nat) : ∀ (m : Nat) (l : List α), l.length ≤ m → (∀ y ∈ l, (l.filter fun x => decide (f x = f y)).length = k) → ∃ c : List β, c.Nodup ∧ (∀ b, b ∈ c ↔ ∃ x ∈ l, f x = b) ∧ l.length = c.length * k
  | _, [], _, _ => ⟨[], by simp, by simp, by simp⟩
  | 0, x :: l, h, _ => by simp at h
  | m + 1, x :: l, h, hk => by
    have h2 := filter_len2 (fun y => decide (f y = f x)) (x :: l)
    have hx := hk x (by simp)
    have hlt : ((x :: l).filter fun y => !decide (f y = f x)).length ≤ m := by
      have : 1 ≤ ((x :: l).filter fun y => decide (f y = f x)).length := by
        rw [List.filter_cons_of_pos (by simp)]; simp
      simp only [List.length_cons] at h h2
      omega
    obtain ⟨c, h3, h4, h5⟩ := classes f k m ((x :: l).filter fun y => !decide (f y = f x)) hlt (fun y hy => by
      obtain ⟨hy1, hy2⟩ := List.mem_filter.1 hy
      rw [← hk y hy1, List.filter_filter]
      congr 1
      refine List.filter_congr fun z _ => ?_
      simp only [Bool.not_eq_true', decide_eq_false_iff_not] at hy2
      by_cases e : f z = f y
      · rw [e]; simp [hy2]
      · simp [e])
    refine ⟨f x :: c, List.nodup_cons.2 ⟨fun hm => ?_, h3⟩, fun b => ?_, ?_⟩
    · obtain ⟨y, hy, e⟩ := (h4 _).1 hm
      have := (List.mem_filter.1 hy).2
      simp [e] at this
    · rw [List.mem_cons, h4]
      constructor
      · rintro (rfl | ⟨y, hy, rfl⟩)
        · exact ⟨x, by simp, rfl⟩
        · exact ⟨y, (List.mem_filter.1 hy).1, rfl⟩
      · rintro ⟨y, hy, rfl⟩
        by_cases e : f y = f x
        · exact .inl e
        · exact .inr ⟨y, List.mem_filter.2 ⟨hy, by simpa using e⟩, rfl⟩
    · rw [h2, hx, h5, List.length_cons, Nat.add_mul]; omega
end Go.Gr
end

section
/- The least form, the orders from one pattern to another one. -/
namespace Go.Gr
open Go.Proofs.YteigfapjiekdnaaGreatDoor
def sortI (l : List Int) : List Int := l.mergeSort fun x y => decide (x ≤ y)
theorem sortI_perm (l : List Int) : (sortI l).Perm l := List.mergeSort_perm _ _
theorem sortI_le (l : List Int) : (sortI l).Pairwise (· ≤ ·) := by
  have h := List.pairwise_mergeSort (le := fun x y : Int => decide (x ≤ y)) (fun a b c h1 h2 => by simp at *; omega) (fun a b => by simp; omega) l
  exact h.imp fun h => by simpa using h
theorem sortI_len (l : List Int) : (sortI l).length = l.length := (sortI_perm l).length_eq
/-! ### the least form -/
/-- the least so far, and the order that led to it -/
def stepB (p : Pt) (s : Option (Pt × List Int)) (o : List Int) : Option (Pt × List Int) := match s with
  | none => some (turnP p o, o)
  | some (q, b) => if cmpP (turnP p o) q < 0 then some (turnP p o, o) else some (q, b)
/-- the orders that the form is looked for among -/
def formO (p : Pt) : List (List Int) := ordL p.labels (sortI p.labels) p.labels.length []
def formB (p : Pt) : Option (Pt × List Int) := (formO p).foldl (stepB p) none
def formP (p : Pt) : Pt := ((formB p).getD (⟨[], []⟩, [])).1
def byP (p : Pt) : List Int := ((formB p).getD (⟨[], []⟩, [])).2
theorem best_some (p : Pt) : ∀ (xs : List (List Int)) (b : List Int), ∃ b', xs.foldl (stepB p) (some (turnP p b, b)) = some (turnP p b', b') ∧ (b' = b ∨ b' ∈ xs) ∧ cmpP (turnP p b') (turnP p b) ≤ 0 ∧ ∀ o ∈ xs, cmpP (turnP p b') (turnP p o) ≤ 0
  | [], b => ⟨b, rfl, .inl rfl, Int.le_of_eq (torP.self _), by simp⟩
  | x :: xs, b => by
    rw [List.foldl_cons]
    by_cases h : cmpP (turnP p x) (turnP p b) < 0
    · obtain ⟨b', h1, h2, h3, h4⟩ := best_some p xs x
      refine ⟨b', by rw [← h1]; simp only [stepB]; rw [if_pos h], .inr (by rcases h2 with rfl | h2 <;> simp [*]), torP.le_trans h3 (Int.le_of_lt h), fun o ho => ?_⟩
      rcases List.mem_cons.1 ho with rfl | ho
      · exact h3
      · exact h4 o ho
    · obtain ⟨b', h1, h2, h3, h4⟩ := best_some p xs b
      refine ⟨b', by rw [← h1]; simp only [stepB]; rw [if_neg h], by rcases h2 with rfl | h2 <;> simp [*], h3, fun o ho => ?_⟩
      rcases List.mem_cons.1 ho with rfl | ho
      · exact torP.le_trans h3 (torP.not_lt.1 h)
      · exact h4 o ho
theorem best_of (p : Pt) {xs : List (List Int)} (h : xs ≠ []) : ∃ b, xs.foldl (stepB p) none = some (turnP p b, b) ∧ b ∈ xs ∧ ∀ o ∈ xs, cmpP (turnP p b) (turnP p o) ≤ 0 := by
  cases xs with
  | nil => exact absurd rfl h
  | cons x xs =>
    obtain ⟨b, h1, h2, h3, h4⟩ := best_some p xs x
    refine ⟨b, h1, by rcases h2 with rfl | h2 <;> simp [*], fun o ho => ?_⟩
    rcases List.mem_cons.1 ho with rfl | ho
    · exact h3
    · exact h4 o ho
theorem mem_formO {n : Nat} {p : Pt} (hp : PtOk n p) {o : List Int} : o ∈ formO p ↔ IsOrd n o ∧ ∀ i, i < n → (sortI p.labels)[pl o i]? = p.labels[i]? := by
  unfold formO
  rw [hp.len]
  exact mem_ords (by rw [sortI_len, hp.len])
theorem mem_formO2 {n : Nat} {p : Pt} (hp : PtOk n p) {o : List Int} : o ∈ formO p ↔ IsOrd n o ∧ (turnP p o).labels = sortI p.labels := by
  rw [mem_formO hp]
  refine and_congr_right fun ho => ⟨fun h => ?_, fun h i hi => ?_⟩
  · apply List.ext_getElem?
    intro k
    by_cases hk : k < n
    · obtain ⟨i, hi, rfl⟩ := pl_surj ho hk
      rw [turnP_at ho hp hi, h i hi]
    · have := hp.len
      rw [List.getElem?_eq_none (by rw [turnP_len]; omega), List.getElem?_eq_none (by rw [sortI_len]; omega)]
  · rw [← h, turnP_at ho hp hi]
theorem turnP_labels {n : Nat} {p : Pt} (hp : PtOk n p) {o : List Int} (ho : IsOrd n o) : (turnP p o).labels.Perm p.labels := by
  -- the places of one are those of the other
  have h1 : (turnP p o).labels = (List.range n).map fun k => ((turnP p o).labels[k]?).getD 0 := by
    apply List.ext_getElem?
    intro k
    by_cases hk : k < n
    · have hl : k < (turnP p o).labels.length := by rw [turnP_len, hp.len]; exact hk
      rw [List.getElem?_map, List.getElem?_range hk]; simp [hl]
    · rw [List.getElem?_eq_none (by rw [turnP_len, hp.len]; omega), List.getElem?_eq_none (by simp; omega)]
  have h2 : p.labels = (List.range n).map fun i => ((turnP p o).labels[pl o i]?).getD 0 := by
    apply List.ext_getElem?
    intro i
    by_cases hi : i < n
    · rw [List.getElem?_map, List.getElem?_range hi, Option.map_some, turnP_at ho hp hi, List.getElem?_eq_getElem (by rw [hp.len]; exact hi)]; rfl
    · rw [List.getElem?_eq_none (by rw [hp.len]; omega), List.getElem?_eq_none (by simp; omega)]
  have h3 : ((List.range n).map (pl o)).Perm (List.range n) := by
    refine perm_of_sub ?_ (fun x hx => ?_) (by simp)
    · refine List.pairwise_map.2 (List.Pairwise.imp_of_mem ?_ List.nodup_range)
      intro i j hi hj hne e
      exact hne (pl_inj ho (List.mem_range.1 hi) (List.mem_range.1 hj) e)
    · obtain ⟨i, hi, rfl⟩ := List.mem_map.1 hx
      exact List.mem_range.2 (pl_lt ho (List.mem_range.1 hi))
  have h4 := h3.map fun k => ((turnP p o).labels[k]?).getD 0
  rw [List.map_map] at h4
  rw [← h1] at h4
  refine h4.symm.trans ?_
  rw [show ((fun k => ((turnP p o).labels[k]?).getD 0) ∘ pl o) = fun i => ((turnP p o).labels[pl o i]?).getD 0 from rfl, ← h2]
/-- some order lays the labels in their order -/
theorem formO_ne {n : Nat} {p : Pt} (hp : PtOk n p) : formO p ≠ [] := by
  -- an order for every permutation of a list
  have key : ∀ {l m : List Int}, m.Perm l → ∃ f : Nat → Nat, (∀ i, i < l.length → f i < l.length) ∧ (∀ i j, i < l.length → j < l.length → f i = f j → i = j) ∧ ∀ i, i < l.length → m[f i]? = l[i]? := by
    intro l
    induction l with
    | nil => intro m h; exact ⟨id, by simp, by simp, by simp⟩
    | cons x l ih =>
      intro m h
      have hx : x ∈ m := h.mem_iff.2 (by simp)
      obtain ⟨k, hk, e⟩ := List.mem_iff_getElem.1 hx
      have hml := h.length_eq
      simp only [List.length_cons] at hml
      have hp1 : (m.eraseIdx k).Perm l := by
        have h1 : m.Perm (m[k] :: m.eraseIdx k) := by
          conv => lhs; rw [← List.take_append_drop k m, List.drop_eq_getElem_cons hk]
          rw [List.eraseIdx_eq_take_drop_succ]
          exact List.perm_middle
        rw [e] at h1
        exact (List.perm_cons x).1 (h1.symm.trans h)
      obtain ⟨f, f1, f2, f3⟩ := ih hp1
      refine ⟨fun i => match i with
        | 0 => k
        | i + 1 => if f i < k then f i else f i + 1, fun i hi => ?_, fun i j hi hj hij => ?_, fun i hi => ?_⟩
      · cases i with
        | zero => simp only [List.length_cons]; omega
        | succ i =>
          have := f1 i (by simpa using hi)
          simp only [List.length_cons]; split <;> omega
      · cases i with
        | zero =>
          cases j with
          | zero => rfl
          | succ j => simp only at hij; split at hij <;> omega
        | succ i =>
          cases j with
          | zero => simp only at hij; split at hij <;> omega
          | succ j =>
            simp only at hij
            have : f i = f j := by split at hij <;> split at hij <;> omega
            have := f2 i j (by simpa using hi) (by simpa using hj) this
            omega
      · cases i with
        | zero => simp only; rw [List.getElem?_eq_getElem hk, e]; rfl
        | succ i =>
          have := f3 i (by simpa using hi)
          rw [List.getElem?_cons_succ, ← this, List.getElem?_eraseIdx]
          simp only
          split
          · rfl
          · rfl
  obtain ⟨f, f1, f2, f3⟩ := key (sortI_perm p.labels)
  rw [hp.len] at f1 f2 f3
  have : ((List.range n).map fun i => (f i : Int)) ∈ formO p := (mem_formO hp).2 ⟨ord_of f1 f2, fun i hi => by rw [pl_of hi]; exact f3 i hi⟩
  exact List.ne_nil_of_mem this
theorem form_spec {n : Nat} {p : Pt} (hp : PtOk n p) : formB p = some (formP p, byP p) ∧ IsOrd n (byP p) ∧ formP p = turnP p (byP p) ∧ (formP p).labels = sortI p.labels ∧ ∀ o, IsOrd n o → cmpP (formP p) (turnP p o) ≤ 0 := by
  obtain ⟨b, h1, h2, h3⟩ := best_of p (formO_ne hp)
  have hb : formB p = some (turnP p b, b) := h1
  have e1 : formP p = turnP p b := by unfold formP; rw [hb]; rfl
  have e2 : byP p = b := by unfold byP; rw [hb]; rfl
  obtain ⟨g1, g2⟩ := (mem_formO2 hp).1 h2
  rw [e1, e2]
  refine ⟨hb, g1, rfl, g2, fun o ho => ?_⟩
  have hl := sorted_least (sortI_le p.labels) ((turnP_labels hp ho).trans (sortI_perm p.labels).symm)
  rcases (torF torI).le_of hl with h | h
  · exact Int.le_of_lt (cmpP_labels (by rw [turnP_len, turnP_len]) (by rw [g2]; exact h))
  · exact h3 o ((mem_formO2 hp).2 ⟨ho, h.symm⟩)
/-- what a pattern is turned to has its form -/
theorem form_turn {n : Nat} {p : Pt} (hp : PtOk n p) {o : List Int} (ho : IsOrd n o) : formP (turnP p o) = formP p := by
  have hq := turnP_ok ho hp
  obtain ⟨_, a1, a2, _, a3⟩ := form_spec hp
  obtain ⟨_, b1, b2, _, b3⟩ := form_spec hq
  refine torP.antisymm ?_ ?_
  · have := b3 (thenL (backL o) (byP p)) (thenL_ord (back_ord ho) a1)
    rw [← turn_then (back_ord ho) a1 hq, turn_back ho hp, ← a2] at this
    exact this
  · have := a3 (thenL o (byP (turnP p o))) (thenL_ord ho b1)
    rw [← turn_then ho b1 hp, ← b2] at this
    exact this
/-! ### orders from one pattern to another one -/
/-! ### the orders come in their own order -/
end Go.Gr
end

section
/- quick, plain: images of turned patterns; own orders divide them. -/
namespace Go.Gr
open Go.Proofs.YteigfapjiekdnaaGreatDoor
theorem turn_cases (a b : Int) : turn ⟨a, b⟩ = ⟨a, b⟩ ∨ turn ⟨a, b⟩ = ⟨b, a⟩ := by unfold turn; simp only [Edg.mk.injEq]; omega
theorem turn_inj {a b c d : Int} (h : turn ⟨a, b⟩ = turn ⟨c, d⟩) : (a = c ∧ b = d) ∨ (a = d ∧ b = c) := by
  unfold turn at h; simp only [Edg.mk.injEq] at h; omega
section
variable {n : Nat} {p : Pt} {b : List Int}
theorem phOf_turn (hb : IsOrd n b) (hp : PtOk n p) {i j : Nat} (hi : i < n) (hj : j < n) : phOf (turnP p b) (pl b i) (pl b j) = phOf p i j := by
  rw [Bool.eq_iff_iff]
  unfold phOf
  rw [decide_eq_true_eq, decide_eq_true_eq, (turnP_edges hb hp).2]
  constructor
  · rintro ⟨x, hx, e⟩
    obtain ⟨c, d, hcd, hdn, rfl⟩ := edge_nat (hp.edge x hx)
    rw [mv_is b hb (by omega) hdn] at e
    rcases turn_inj e with ⟨h1, h2⟩ | ⟨h1, h2⟩
    · have := pl_inj hb hi (show c < n by omega) (by omega)
      have := pl_inj hb hj hdn (by omega)
      subst_vars
      rw [turn_lt (by omega)]; exact hx
    · have := pl_inj hb hi hdn (by omega)
      have := pl_inj hb hj (show c < n by omega) (by omega)
      subst_vars
      rw [turn_gt (by omega)]; exact hx
  · intro h
    refine ⟨_, h, ?_⟩
    rcases turn_cases (i : Int) (j : Int) with e | e
    · rw [e, mv_is b hb hi hj]
    · rw [e, mv_is b hb hj hi, turn_comm]
def mvI (b L : List Int) : List Int := putL b L b.length
theorem mvI_len (b L : List Int) : (mvI b L).length = L.length := putL_len _ _ _
theorem mvI_at (hb : IsOrd n b) {L : List Int} (hL : L.length = n) {i : Nat} (hi : i < n) : (mvI b L)[pl b i]? = L[i]? := putL_at hb hL hi
theorem list_ext {a c : List Int} {m : Nat} (ha : a.length = m) (hc : c.length = m) (h : ∀ k, k < m → a[k]? = c[k]?) : a = c := by
  refine List.ext_getElem? fun k => ?_
  by_cases hk : k < m
  · exact h k hk
  · rw [List.getElem?_eq_none (by omega), List.getElem?_eq_none (by omega)]
end
end Go.Gr
end
