/- Merged: Cpb. -/
import Derived.Test.YteigfapjiekdnaaGreatDoorKtav
section
/- Patterns' own order, search's orders, classes. -/
namespace Go.Gr
open Go.Proofs.YteigfapjiekdnaaGreatDoor
/-! ### which pattern comes ahead -/
/-- a whole order, told by a number -/
structure TOrd {α : Type} (f : α → α → Int) : Prop where
  eq0 : ∀ x y, f x y = 0 ↔ x = y
  anti : ∀ x y, f y x < 0 ↔ 0 < f x y
  trans : ∀ x y z, f x y < 0 → f y z < 0 → f x z < 0
theorem torI : TOrd cmpI := ⟨cmpI_eq, fun x y => by rw [cmpI_anti]; omega, fun x y z => by rw [cmpI_lt, cmpI_lt, cmpI_lt]; omega⟩
theorem torF {α : Type} {f : α → α → Int} (h : TOrd f) : TOrd (cmpF f) := by
  refine ⟨fun x => ?_, fun x => ?_, fun x => ?_⟩
  · induction x with
    | nil => intro y; cases y <;> simp [cmpF]
    | cons a x ih =>
      intro y
      cases y with
      | nil => simp [cmpF]
      | cons b y =>
        rw [cmpF_cons]
        by_cases e : f a b = 0
        · rw [if_pos e, ih y]
          have := (h.eq0 a b).1 e
          subst this; simp
        · rw [if_neg e]
          have : a ≠ b := fun hh => e ((h.eq0 a b).2 hh)
          simp [e, this]
  · induction x with
    | nil => intro y; cases y <;> simp [cmpF]
    | cons a x ih =>
      intro y
      cases y with
      | nil => simp [cmpF]
      | cons b y =>
        rw [cmpF_cons, cmpF_cons]
        by_cases e : f a b = 0
        · have := (h.eq0 a b).1 e
          subst this
          rw [if_pos e, if_pos e]; exact ih y
        · have e2 : f b a ≠ 0 := fun hh => e ((h.eq0 a b).2 ((h.eq0 b a).1 hh).symm)
          rw [if_neg e, if_neg e2]; exact h.anti a b
  · induction x with
    | nil => intro y z; cases y <;> cases z <;> simp [cmpF]
    | cons a x ih =>
      intro y z
      cases y with
      | nil => simp [cmpF]
      | cons b y =>
        cases z with
        | nil => simp [cmpF]
        | cons c z =>
          rw [cmpF_cons, cmpF_cons, cmpF_cons]
          by_cases e1 : f a b = 0
          · have := (h.eq0 a b).1 e1
            subst this
            rw [if_pos e1]
            by_cases e2 : f a c = 0
            · rw [if_pos e2, if_pos e2]; exact ih y z
            · rw [if_neg e2, if_neg e2]; exact fun _ h => h
          · rw [if_neg e1]
            by_cases e2 : f b c = 0
            · have := (h.eq0 b c).1 e2
              subst this
              rw [if_pos e2, if_neg e1]; exact fun h _ => h
            · rw [if_neg e2]
              intro h1 h2
              have h3 := h.trans _ _ _ h1 h2
              rw [if_neg (by omega)]; exact h3
theorem cmpF_append {α : Type} {f : α → α → Int} (h : TOrd f) : ∀ {a b : List α} (c d : List α), a.length = b.length → cmpF f (a ++ c) (b ++ d) = if cmpF f a b = 0 then cmpF f c d else cmpF f a b
  | [], [], c, d, _ => by simp [cmpF]
  | x :: a, y :: b, c, d, hl => by
    rw [List.cons_append, List.cons_append, cmpF_cons, cmpF_cons, cmpF_append h (a := a) (b := b) c d (by simpa using hl)]
    by_cases e : f x y = 0
    · simp [e]
    · simp [e]
  | [], _ :: _, _, _, hl => by simp at hl
  | _ :: _, [], _, _, hl => by simp at hl
/-- a pattern's words -/
def keyP (p : Pt) : List Int := (p.labels.length : Int) :: (p.labels ++ (p.edges.length : Int) :: p.edges.flatMap fun e => [e.a, e.b])
theorem cmpF_edges : ∀ E F : List Edg, cmpF cmpE E F = cmpF cmpI (E.flatMap fun e => [e.a, e.b]) (F.flatMap fun e => [e.a, e.b])
  | [], [] => rfl
  | [], _ :: _ => rfl
  | _ :: _, [] => rfl
  | x :: E, y :: F => by
    simp only [List.flatMap_cons, List.cons_append, List.nil_append, cmpF_cons]
    rw [cmpF_edges E F]
    unfold cmpE
    by_cases h : cmpI x.a y.a = 0
    · simp [h]
    · simp [h]
theorem cmpP_key (p q : Pt) : cmpP p q = cmpF cmpI (keyP p) (keyP q) := by
  unfold cmpP keyP orF
  rw [cmpF_cons]
  by_cases h1 : cmpI (p.labels.length : Int) (q.labels.length : Int) = 0
  · rw [if_pos h1, if_pos h1, cmpF_append torI _ _ (by have := (cmpI_eq _ _).1 h1; omega)]
    unfold orF
    by_cases h2 : cmpF cmpI p.labels q.labels = 0
    · rw [if_pos h2, if_pos h2, cmpF_cons, ← cmpF_edges]
      unfold orF
      by_cases h3 : cmpI (p.edges.length : Int) (q.edges.length : Int) = 0
      · rw [if_pos h3, if_pos h3]; unfold orF
        by_cases h4 : cmpF cmpE p.edges q.edges = 0
        · rw [if_pos h4, h4]; rfl
        · rw [if_neg h4]
      · rw [if_neg h3, if_neg h3]
    · rw [if_neg h2, if_neg h2]
  · rw [if_neg h1, if_neg h1]
theorem flat_inj : ∀ {E F : List Edg}, (E.flatMap fun e => [e.a, e.b]) = (F.flatMap fun e => [e.a, e.b]) → E = F
  | [], [], _ => rfl
  | [], _ :: _, h => by simp at h
  | _ :: _, [], h => by simp at h
  | x :: E, y :: F, h => by
    simp only [List.flatMap_cons, List.cons_append, List.nil_append, List.cons.injEq] at h
    rw [flat_inj h.2.2]
    cases x; cases y; simp only at h; simp [h.1, h.2.1]
theorem keyP_inj {p q : Pt} (h : keyP p = keyP q) : p = q := by
  unfold keyP at h
  rw [List.cons.injEq] at h
  obtain ⟨h1, h2⟩ := List.append_inj h.2 (by have := h.1; omega)
  rw [List.cons.injEq] at h2
  cases p; cases q
  simp only at h1 h2
  simp [h1, flat_inj h2.2]
theorem torP : TOrd cmpP := ⟨fun x y => by
    rw [cmpP_key, (torF torI).eq0]; exact ⟨keyP_inj, fun h => by rw [h]⟩, fun x y => by
    rw [cmpP_key, cmpP_key]; exact (torF torI).anti _ _, fun x y z => by
    rw [cmpP_key, cmpP_key, cmpP_key]; exact (torF torI).trans _ _ _⟩
instance : DecidableEq Pt := fun p q => decidable_of_iff (cmpP p q = 0) (torP.eq0 p q)
section
variable {α : Type} {f : α → α → Int} (h : TOrd f)
include h
theorem TOrd.not_lt {x y : α} : ¬ f x y < 0 ↔ f y x ≤ 0 := by
  rw [h.anti y x]; omega
theorem TOrd.le_of {x y : α} (hxy : f x y ≤ 0) : f x y < 0 ∨ x = y := by
  rcases Int.lt_or_eq_of_le hxy with h1 | h1
  · exact .inl h1
  · exact .inr ((h.eq0 _ _).1 h1)
theorem TOrd.self (x : α) : f x x = 0 := (h.eq0 x x).2 rfl
theorem TOrd.le_trans {x y z : α} (h1 : f x y ≤ 0) (h2 : f y z ≤ 0) : f x z ≤ 0 := by
  rcases h.le_of h1 with h1 | rfl
  · rcases h.le_of h2 with h2 | rfl
    · exact Int.le_of_lt (h.trans _ _ _ h1 h2)
    · omega
  · exact h2
end
/-- what lies in order comes ahead of all that it may be laid to -/
theorem sorted_least : ∀ {S T : List Int}, S.Pairwise (· ≤ ·) → T.Perm S → cmpF cmpI S T ≤ 0
  | [], T, _, hp => by rw [hp.eq_nil]; exact Int.le_refl _
  | s :: S, [], _, hp => by have := hp.length_eq; simp at this
  | s :: S, t :: T, hs, hp => by
    obtain ⟨h1, h2⟩ := List.pairwise_cons.1 hs
    rw [cmpF_cons]
    by_cases e : s = t
    · subst e
      rw [if_pos ((cmpI_eq s s).2 rfl)]
      exact sorted_least h2 ((List.perm_cons s).1 hp)
    · have : t ∈ S := by
        have := hp.mem_iff.1 (List.mem_cons_self (a := t) (l := T))
        rcases List.mem_cons.1 this with h | h
        · exact absurd h.symm e
        · exact h
      have hlt : s < t := by have := h1 t this; omega
      rw [if_neg (by rw [cmpI_eq]; exact e)]
      have := (cmpI_lt s t).2 hlt; omega
/-- patterns of as many vertices: the labels come first -/
theorem cmpP_labels {p q : Pt} (hl : p.labels.length = q.labels.length) (h : cmpF cmpI p.labels q.labels < 0) : cmpP p q < 0 := by
  unfold cmpP
  rw [show cmpI (p.labels.length : Int) (q.labels.length : Int) = 0 from (cmpI_eq _ _).2 (by omega)]
  unfold orF; rw [if_pos rfl]; unfold orF
  rw [if_neg (by omega)]; exact h

/-! ### the orders that search goes through -/
theorem mem_ordL (fr to : List Int) : ∀ (k : Nat) (ah : List Nat) (o : List Int), o ∈ ordL fr to k ah ↔ ∃ t : List Nat, t.length = k ∧ o = (ah ++ t).map (fun j : Nat => (j : Int)) ∧
    ∀ i j, t[i]? = some j → j ∉ ah ++ t.take i ∧ j < to.length ∧ to[j]? = fr[ah.length + i]?
  | 0, ah, o => by
    simp only [ordL, List.mem_singleton]
    constructor
    · rintro rfl; exact ⟨[], rfl, by simp, by simp⟩
    · rintro ⟨t, ht, rfl, _⟩
      rw [List.eq_nil_of_length_eq_zero ht]; simp
  | k + 1, ah, o => by
    simp only [ordL, List.mem_flatMap, List.mem_filter, List.mem_range, Bool.and_eq_true, decide_eq_true_eq, Bool.not_eq_true']
    constructor
    · rintro ⟨j, ⟨hj, hc, he⟩, ho⟩
      obtain ⟨t, ht, rfl, hh⟩ := (mem_ordL fr to k (ah ++ [j]) o).1 ho
      refine ⟨j :: t, by simp [ht], by simp, fun i j' hi => ?_⟩
      cases i with
      | zero =>
        simp at hi; subst hi
        refine ⟨by simpa using hc, hj, by simpa using he⟩
      | succ i =>
        have := hh i j' (by simpa using hi)
        refine ⟨by simpa using this.1, this.2.1, ?_⟩
        rw [this.2.2, List.length_append, List.length_singleton, Nat.add_assoc, Nat.add_comm 1 i]
    · rintro ⟨t, ht, rfl, hh⟩
      cases t with
      | nil => simp at ht
      | cons j t =>
        have h0 := hh 0 j rfl
        refine ⟨j, ⟨h0.2.1, by simpa using h0.1, by simpa using h0.2.2⟩, (mem_ordL fr to k (ah ++ [j]) _).2 ⟨t, by simpa using ht, by simp, fun i j' hi => ?_⟩⟩
        have := hh (i + 1) j' (by simpa using hi)
        refine ⟨by simpa using this.1, this.2.1, ?_⟩
        rw [this.2.2, List.length_append, List.length_singleton, Nat.add_assoc, Nat.add_comm 1 i]
theorem mem_ords {fr to : List Int} {n : Nat} (ht : to.length = n) {o : List Int} : o ∈ ordL fr to n [] ↔ IsOrd n o ∧ ∀ i, i < n → to[pl o i]? = fr[i]? := by
  rw [mem_ordL]
  constructor
  · rintro ⟨t, hl, rfl, hh⟩
    simp only [List.nil_append, List.length_nil, Nat.zero_add] at hh ⊢
    refine ⟨⟨by simp [hl], fun x hx => ?_, ?_⟩, fun i hi => ?_⟩
    · obtain ⟨j, hj, rfl⟩ := List.mem_map.1 hx
      obtain ⟨i, hi, rfl⟩ := List.mem_iff_getElem.1 hj
      have := (hh i _ (List.getElem?_eq_getElem hi)).2.1
      omega
    · refine List.pairwise_map.2 ?_
      rw [List.pairwise_iff_getElem]
      intro i j hi hj hij e
      have := (hh j _ (List.getElem?_eq_getElem hj)).1
      refine this (List.mem_take_iff_getElem.2 ⟨i, by omega, ?_⟩)
      omega
    · have hx := List.getElem?_eq_getElem (l := t) (i := i) (by omega)
      have := (hh i _ hx).2.2
      rw [← this]
      congr 1
      unfold pl
      rw [List.getElem?_map, hx]; simp
  · rintro ⟨ho, hh⟩
    refine ⟨o.map Int.toNat, by simp [ho.1], ?_, fun i j hi => ?_⟩
    · rw [List.nil_append, List.map_map]
      refine (List.map_id _).symm.trans (List.map_congr_left fun x hx => ?_)
      have := ho.2.1 x hx
      simp only [Function.comp_apply, id]; omega
    · have hin : i < n := by
        have := (List.getElem?_eq_some_iff.1 hi).1
        rw [List.length_map, ho.1] at this; exact this
      rw [List.getElem?_map, pl_at ho hin] at hi
      simp only [Option.map_some, Int.toNat_natCast, Option.some.injEq] at hi
      subst hi
      refine ⟨?_, by rw [ht]; exact pl_lt ho hin, by simpa using hh i hin⟩
      rw [List.nil_append]
      intro hm
      obtain ⟨k, hk, e⟩ := List.mem_take_iff_getElem.1 hm
      rw [List.getElem_map] at e
      have hkn : k < n := by omega
      have := pl_at ho hkn
      have hkl : k < o.length := by rw [ho.1]; exact hkn
      rw [List.getElem?_eq_getElem hkl] at this
      have e2 : pl o k = pl o i := by
        rw [Option.some.inj this] at e
        simpa using e
      have := pl_inj ho hkn hin e2; omega
theorem ordL_nodup (fr to : List Int) : ∀ (k : Nat) (ah : List Nat), (ordL fr to k ah).Nodup
  | 0, ah => by simp [ordL]
  | k + 1, ah => by
    simp only [ordL]
    refine List.pairwise_flatMap.2 ⟨fun j _ => ordL_nodup fr to k _, ?_⟩
    refine List.Pairwise.imp ?_ (List.nodup_range.filter _)
    intro i j hij x hx y hy e
    subst e
    obtain ⟨t1, _, e1, _⟩ := (mem_ordL fr to k _ _).1 hx
    obtain ⟨t2, _, e2, _⟩ := (mem_ordL fr to k _ _).1 hy
    rw [e1] at e2
    have e3 : ((ah ++ [i]) ++ t1).map (fun j : Nat => (j : Int)) = ((ah ++ [j]) ++ t2).map (fun j : Nat => (j : Int)) := e2
    have e4 := congrArg (fun l : List Int => l[ah.length]?) e3
    simp at e4
    omega
/-- .. how many there are where all may be -/
def facN : Nat → Nat
  | 0 => 1
  | n + 1 => (n + 1) * facN n
theorem flatMap_len {α β : Type} {l : List α} {f : α → List β} {k : Nat} (h : ∀ x ∈ l, (f x).length = k) : (l.flatMap f).length = l.length * k := by
  induction l with
  | nil => simp
  | cons x l ih =>
    rw [List.flatMap_cons, List.length_append, h x (by simp), ih fun y hy => h y (by simp [hy]), List.length_cons, Nat.add_mul]; omega
theorem filter_len2 {α : Type} (p : α → Bool) : ∀ l : List α, l.length = (l.filter p).length + (l.filter fun x => !p x).length
  | [] => rfl
  | x :: l => by
    have := filter_len2 p l
    cases h : p x with
    | true => rw [List.filter_cons_of_pos h, List.filter_cons_of_neg (by simp [h]), List.length_cons, List.length_cons]; omega
    | false => rw [List.filter_cons_of_neg (by simp [h]), List.filter_cons_of_pos (by simp [h]), List.length_cons, List.length_cons]; omega
theorem free_len {n : Nat} {ah : List Nat} (hn : ah.Nodup) (h : ∀ j ∈ ah, j < n) : ((List.range n).filter fun j => !(ah.contains j)).length + ah.length = n := by
  have h1 : ((List.range n).filter fun j => ah.contains j).Perm ah := by
    refine perm_of_sub (List.nodup_range.filter _) (fun x hx => by simpa using (List.mem_filter.1 hx).2) ?_
    exact nodup_len hn fun x hx => List.mem_filter.2 ⟨List.mem_range.2 (h x hx), by simpa using hx⟩
  have h2 := filter_len2 (fun j => ah.contains j) (List.range n)
  rw [List.length_range, h1.length_eq] at h2
  omega
theorem ordL_len (n : Nat) : ∀ (k : Nat) (ah : List Nat), ah.Nodup → (∀ j ∈ ah, j < n) → ah.length + k = n → (ordL (List.replicate n 0) (List.replicate n 0) k ah).length = facN k
  | 0, ah, _, _, _ => rfl
  | k + 1, ah, hn, hj, hk => by
    simp only [ordL, List.length_replicate]
    have hf : ((List.range n).filter fun j => !(ah.contains j) && decide ((List.replicate n (0 : Int))[j]? = (List.replicate n (0 : Int))[ah.length]?)) = (List.range n).filter fun j => !(ah.contains j) := by
      refine List.filter_congr fun j hj' => ?_
      have : j < n := List.mem_range.1 hj'
      simp [this, show ah.length < n by omega]
    rw [hf, flatMap_len (k := facN k)]
    · have := free_len hn hj
      rw [show ((List.range n).filter fun j => !(ah.contains j)).length = k + 1 by omega]; rfl
    · intro j hjm
      obtain ⟨h1, h2⟩ := List.mem_filter.1 hjm
      have h1' := List.mem_range.1 h1
      refine ordL_len n k (ah ++ [j]) ?_ ?_ (by simp; omega)
      · exact List.nodup_append.2 ⟨hn, by simp, fun a ha b hb e => by simp at hb; subst hb; subst e; simp at h2; exact h2 ha⟩
      · intro x hx
        rcases List.mem_append.1 hx with hx | hx
        · exact hj x hx
        · simp at hx; subst hx; exact h1'
/-- all orders of n -/
def allO (n : Nat) : List (List Int) := ordL (List.replicate n 0) (List.replicate n 0) n []
theorem mem_allO {n : Nat} {o : List Int} : o ∈ allO n ↔ IsOrd n o := by
  unfold allO
  rw [mem_ords (by simp)]
  refine ⟨fun h => h.1, fun h => ⟨h, fun i hi => ?_⟩⟩
  simp [hi, pl_lt h hi]
theorem allO_len (n : Nat) : (allO n).length = facN n := ordL_len n n [] (by simp) (by simp) (by simp)
theorem allO_nodup (n : Nat) : (allO n).Nodup := ordL_nodup _ _ _ _

/-! ### things in classes of as many each -/
theorem classes {α β : Type} [DecidableEq β] (f : α → β) (k : Nat) : ∀ (m : Nat) (l : List α), l.length ≤ m → (∀ y ∈ l, (l.filter fun x => decide (f x = f y)).length = k) → ∃ c : List β, c.Nodup ∧ (∀ b, b ∈ c ↔ ∃ x ∈ l, f x = b) ∧ l.length = c.length * k
  | _, [], _, _ => ⟨[], by simp, by simp, by simp⟩
  | 0, x :: l, h, _ => by simp at h
  | m + 1, x :: l, h, hk => by
    have h2 := filter_len2 (fun y => decide (f y = f x)) (x :: l)
    have hx := hk x (by simp)
    have hlt : ((x :: l).filter fun y => !decide (f y = f x)).length ≤ m := by
      have : 1 ≤ ((x :: l).filter fun y => decide (f y = f x)).length := by
        rw [List.filter_cons_of_pos (by simp)]; simp
      simp only [List.length_cons] at h h2
      omega
    obtain ⟨c, h3, h4, h5⟩ := classes f k m ((x :: l).filter fun y => !decide (f y = f x)) hlt (fun y hy => by
      obtain ⟨hy1, hy2⟩ := List.mem_filter.1 hy
      rw [← hk y hy1, List.filter_filter]
      congr 1
      refine List.filter_congr fun z _ => ?_
      simp only [Bool.not_eq_true', decide_eq_false_iff_not] at hy2
      by_cases e : f z = f y
      · rw [e]; simp [hy2]
      · simp [e])
    refine ⟨f x :: c, List.nodup_cons.2 ⟨fun hm => ?_, h3⟩, fun b => ?_, ?_⟩
    · obtain ⟨y, hy, e⟩ := (h4 _).1 hm
      have := (List.mem_filter.1 hy).2
      simp [e] at this
    · rw [List.mem_cons, h4]
      constructor
      · rintro (rfl | ⟨y, hy, rfl⟩)
        · exact ⟨x, by simp, rfl⟩
        · exact ⟨y, (List.mem_filter.1 hy).1, rfl⟩
      · rintro ⟨y, hy, rfl⟩
        by_cases e : f y = f x
        · exact .inl e
        · exact .inr ⟨y, List.mem_filter.2 ⟨hy, by simpa using e⟩, rfl⟩
    · rw [h2, hx, h5, List.length_cons, Nat.add_mul]; omega
/-- a list with as many things as another one by a map there and back -/
theorem len_bij {α β : Type} [DecidableEq α] [DecidableEq β] {l : List α} {m : List β} (hl : l.Nodup) (hm : m.Nodup) (f : α → β) (g : β → α) (hf : ∀ x ∈ l, f x ∈ m ∧ g (f x) = x) (hg : ∀ y ∈ m, g y ∈ l ∧ f (g y) = y) : l.length = m.length := by
  have key : ∀ {α β : Type} [DecidableEq α] [DecidableEq β] {l : List α} {m : List β} (f : α → β) (g : β → α), l.Nodup → (∀ x ∈ l, f x ∈ m ∧ g (f x) = x) → l.length ≤ m.length := fun {_ _} _ _ {l m} f g hl hf => by
    have : (l.map f).Nodup := by
      refine List.pairwise_map.2 (List.Pairwise.imp_of_mem ?_ hl)
      intro x y hx hy hne e
      exact hne (by rw [← (hf x hx).2, ← (hf y hy).2, e])
    have := nodup_len this (m := m) fun y hy => by
      obtain ⟨x, hx, rfl⟩ := List.mem_map.1 hy; exact (hf x hx).1
    simpa using this
  exact Nat.le_antisymm (key f g hl hf) (key g f hm hg)
end Go.Gr
end
