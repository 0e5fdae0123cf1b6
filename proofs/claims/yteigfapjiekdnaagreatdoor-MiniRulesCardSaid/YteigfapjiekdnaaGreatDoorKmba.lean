/- Merged: Cpc Cpd Imd Mra Lgr Seb. -/
import Derived.Test.YteigfapjiekdnaaGreatDoorKmaz
import Derived.Test.YteigfapjiekdnaaGreatDoorKmaq
import Derived.Test.YteigfapjiekdnaaGreatDoorKmar
import Derived.Shelf.Spec.SlicesGrow
import Derived.Test.YteigfapjiekdnaaGreatDoorRows
import Derived.Test.YteigfapjiekdnaaGreatDoorKmax
section
/- The least form, the orders from one pattern to another one. -/
namespace Go.Gr
open Go.Proofs.YteigfapjiekdnaaGreatDoor
def sortI (l : List Int) : List Int := l.mergeSort fun x y => decide (x ≤ y)
theorem sortI_perm (l : List Int) : (sortI l).Perm l := List.mergeSort_perm _ _
theorem sortI_le (l : List Int) : (sortI l).Pairwise (· ≤ ·) := by
  have h := List.pairwise_mergeSort (le := fun x y : Int => decide (x ≤ y)) (fun a b c h1 h2 => by simp at *; omega) (fun a b => by simp; omega) l
  exact h.imp fun h => by simpa using h
theorem sortI_len (l : List Int) : (sortI l).length = l.length := (sortI_perm l).length_eq
/-! ### the least form -/
/-- the least so far, and the order that led to it -/
def stepB (p : Pt) (s : Option (Pt × List Int)) (o : List Int) : Option (Pt × List Int) := match s with
  | none => some (turnP p o, o)
  | some (q, b) => if cmpP (turnP p o) q < 0 then some (turnP p o, o) else some (q, b)
/-- the orders that the form is looked for among -/
def formO (p : Pt) : List (List Int) := ordL p.labels (sortI p.labels) p.labels.length []
def formB (p : Pt) : Option (Pt × List Int) := (formO p).foldl (stepB p) none
def formP (p : Pt) : Pt := ((formB p).getD (⟨[], []⟩, [])).1
def byP (p : Pt) : List Int := ((formB p).getD (⟨[], []⟩, [])).2
theorem best_some (p : Pt) : ∀ (xs : List (List Int)) (b : List Int), ∃ b', xs.foldl (stepB p) (some (turnP p b, b)) = some (turnP p b', b') ∧ (b' = b ∨ b' ∈ xs) ∧ cmpP (turnP p b') (turnP p b) ≤ 0 ∧ ∀ o ∈ xs, cmpP (turnP p b') (turnP p o) ≤ 0
  | [], b => ⟨b, rfl, .inl rfl, Int.le_of_eq (torP.self _), by simp⟩
  | x :: xs, b => by
    rw [List.foldl_cons]
    by_cases h : cmpP (turnP p x) (turnP p b) < 0
    · obtain ⟨b', h1, h2, h3, h4⟩ := best_some p xs x
      refine ⟨b', by rw [← h1]; simp only [stepB]; rw [if_pos h], .inr (by rcases h2 with rfl | h2 <;> simp [*]), torP.le_trans h3 (Int.le_of_lt h), fun o ho => ?_⟩
      rcases List.mem_cons.1 ho with rfl | ho
      · exact h3
      · exact h4 o ho
    · obtain ⟨b', h1, h2, h3, h4⟩ := best_some p xs b
      refine ⟨b', by rw [← h1]; simp only [stepB]; rw [if_neg h], by rcases h2 with rfl | h2 <;> simp [*], h3, fun o ho => ?_⟩
      rcases List.mem_cons.1 ho with rfl | ho
      · exact torP.le_trans h3 (torP.not_lt.1 h)
      · exact h4 o ho
theorem best_of (p : Pt) {xs : List (List Int)} (h : xs ≠ []) : ∃ b, xs.foldl (stepB p) none = some (turnP p b, b) ∧ b ∈ xs ∧ ∀ o ∈ xs, cmpP (turnP p b) (turnP p o) ≤ 0 := by
  cases xs with
  | nil => exact absurd rfl h
  | cons x xs =>
    obtain ⟨b, h1, h2, h3, h4⟩ := best_some p xs x
    refine ⟨b, h1, by rcases h2 with rfl | h2 <;> simp [*], fun o ho => ?_⟩
    rcases List.mem_cons.1 ho with rfl | ho
    · exact h3
    · exact h4 o ho
theorem mem_formO {n : Nat} {p : Pt} (hp : PtOk n p) {o : List Int} : o ∈ formO p ↔ IsOrd n o ∧ ∀ i, i < n → (sortI p.labels)[pl o i]? = p.labels[i]? := by
  unfold formO
  rw [hp.len]
  exact mem_ords (by rw [sortI_len, hp.len])
theorem mem_formO2 {n : Nat} {p : Pt} (hp : PtOk n p) {o : List Int} : o ∈ formO p ↔ IsOrd n o ∧ (turnP p o).labels = sortI p.labels := by
  rw [mem_formO hp]
  refine and_congr_right fun ho => ⟨fun h => ?_, fun h i hi => ?_⟩
  · apply List.ext_getElem?
    intro k
    by_cases hk : k < n
    · obtain ⟨i, hi, rfl⟩ := pl_surj ho hk
      rw [turnP_at ho hp hi, h i hi]
    · have := hp.len
      rw [List.getElem?_eq_none (by rw [turnP_len]; omega), List.getElem?_eq_none (by rw [sortI_len]; omega)]
  · rw [← h, turnP_at ho hp hi]
theorem turnP_labels {n : Nat} {p : Pt} (hp : PtOk n p) {o : List Int} (ho : IsOrd n o) : (turnP p o).labels.Perm p.labels := by
  -- the places of one are those of the other
  have h1 : (turnP p o).labels = (List.range n).map fun k => ((turnP p o).labels[k]?).getD 0 := by
    apply List.ext_getElem?
    intro k
    by_cases hk : k < n
    · have hl : k < (turnP p o).labels.length := by rw [turnP_len, hp.len]; exact hk
      rw [List.getElem?_map, List.getElem?_range hk]; simp [hl]
    · rw [List.getElem?_eq_none (by rw [turnP_len, hp.len]; omega), List.getElem?_eq_none (by simp; omega)]
  have h2 : p.labels = (List.range n).map fun i => ((turnP p o).labels[pl o i]?).getD 0 := by
    apply List.ext_getElem?
    intro i
    by_cases hi : i < n
    · rw [List.getElem?_map, List.getElem?_range hi, Option.map_some, turnP_at ho hp hi, List.getElem?_eq_getElem (by rw [hp.len]; exact hi)]; rfl
    · rw [List.getElem?_eq_none (by rw [hp.len]; omega), List.getElem?_eq_none (by simp; omega)]
  have h3 : ((List.range n).map (pl o)).Perm (List.range n) := by
    refine perm_of_sub ?_ (fun x hx => ?_) (by simp)
    · refine List.pairwise_map.2 (List.Pairwise.imp_of_mem ?_ List.nodup_range)
      intro i j hi hj hne e
      exact hne (pl_inj ho (List.mem_range.1 hi) (List.mem_range.1 hj) e)
    · obtain ⟨i, hi, rfl⟩ := List.mem_map.1 hx
      exact List.mem_range.2 (pl_lt ho (List.mem_range.1 hi))
  have h4 := h3.map fun k => ((turnP p o).labels[k]?).getD 0
  rw [List.map_map] at h4
  rw [← h1] at h4
  refine h4.symm.trans ?_
  rw [show ((fun k => ((turnP p o).labels[k]?).getD 0) ∘ pl o) = fun i => ((turnP p o).labels[pl o i]?).getD 0 from rfl, ← h2]
/-- some order lays the labels in their order -/
theorem formO_ne {n : Nat} {p : Pt} (hp : PtOk n p) : formO p ≠ [] := by
  -- an order for every permutation of a list
  have key : ∀ {l m : List Int}, m.Perm l → ∃ f : Nat → Nat, (∀ i, i < l.length → f i < l.length) ∧ (∀ i j, i < l.length → j < l.length → f i = f j → i = j) ∧ ∀ i, i < l.length → m[f i]? = l[i]? := by
    intro l
    induction l with
    | nil => intro m h; exact ⟨id, by simp, by simp, by simp⟩
    | cons x l ih =>
      intro m h
      have hx : x ∈ m := h.mem_iff.2 (by simp)
      obtain ⟨k, hk, e⟩ := List.mem_iff_getElem.1 hx
      have hml := h.length_eq
      simp only [List.length_cons] at hml
      have hp1 : (m.eraseIdx k).Perm l := by
        have h1 : m.Perm (m[k] :: m.eraseIdx k) := by
          conv => lhs; rw [← List.take_append_drop k m, List.drop_eq_getElem_cons hk]
          rw [List.eraseIdx_eq_take_drop_succ]
          exact List.perm_middle
        rw [e] at h1
        exact (List.perm_cons x).1 (h1.symm.trans h)
      obtain ⟨f, f1, f2, f3⟩ := ih hp1
      refine ⟨fun i => match i with
        | 0 => k
        | i + 1 => if f i < k then f i else f i + 1, fun i hi => ?_, fun i j hi hj hij => ?_, fun i hi => ?_⟩
      · cases i with
        | zero => simp only [List.length_cons]; omega
        | succ i =>
          have := f1 i (by simpa using hi)
          simp only [List.length_cons]; split <;> omega
      · cases i with
        | zero =>
          cases j with
          | zero => rfl
          | succ j => simp only at hij; split at hij <;> omega
        | succ i =>
          cases j with
          | zero => simp only at hij; split at hij <;> omega
          | succ j =>
            simp only at hij
            have : f i = f j := by split at hij <;> split at hij <;> omega
            have := f2 i j (by simpa using hi) (by simpa using hj) this
            omega
      · cases i with
        | zero => simp only; rw [List.getElem?_eq_getElem hk, e]; rfl
        | succ i =>
          have := f3 i (by simpa using hi)
          rw [List.getElem?_cons_succ, ← this, List.getElem?_eraseIdx]
          simp only
          split
          · rfl
          · rfl
  obtain ⟨f, f1, f2, f3⟩ := key (sortI_perm p.labels)
  rw [hp.len] at f1 f2 f3
  have : ((List.range n).map fun i => (f i : Int)) ∈ formO p := (mem_formO hp).2 ⟨ord_of f1 f2, fun i hi => by rw [pl_of hi]; exact f3 i hi⟩
  exact List.ne_nil_of_mem this
theorem form_spec {n : Nat} {p : Pt} (hp : PtOk n p) : formB p = some (formP p, byP p) ∧ IsOrd n (byP p) ∧ formP p = turnP p (byP p) ∧ (formP p).labels = sortI p.labels ∧ ∀ o, IsOrd n o → cmpP (formP p) (turnP p o) ≤ 0 := by
  obtain ⟨b, h1, h2, h3⟩ := best_of p (formO_ne hp)
  have hb : formB p = some (turnP p b, b) := h1
  have e1 : formP p = turnP p b := by unfold formP; rw [hb]; rfl
  have e2 : byP p = b := by unfold byP; rw [hb]; rfl
  obtain ⟨g1, g2⟩ := (mem_formO2 hp).1 h2
  rw [e1, e2]
  refine ⟨hb, g1, rfl, g2, fun o ho => ?_⟩
  have hl := sorted_least (sortI_le p.labels) ((turnP_labels hp ho).trans (sortI_perm p.labels).symm)
  rcases (torF torI).le_of hl with h | h
  · exact Int.le_of_lt (cmpP_labels (by rw [turnP_len, turnP_len]) (by rw [g2]; exact h))
  · exact h3 o ((mem_formO2 hp).2 ⟨ho, h.symm⟩)
/-- what a pattern is turned to has its form -/
theorem form_turn {n : Nat} {p : Pt} (hp : PtOk n p) {o : List Int} (ho : IsOrd n o) : formP (turnP p o) = formP p := by
  have hq := turnP_ok ho hp
  obtain ⟨_, a1, a2, _, a3⟩ := form_spec hp
  obtain ⟨_, b1, b2, _, b3⟩ := form_spec hq
  refine torP.antisymm ?_ ?_
  · have := b3 (thenL (backL o) (byP p)) (thenL_ord (back_ord ho) a1)
    rw [← turn_then (back_ord ho) a1 hq, turn_back ho hp, ← a2] at this
    exact this
  · have := a3 (thenL o (byP (turnP p o))) (thenL_ord ho b1)
    rw [← turn_then ho b1 hp, ← b2] at this
    exact this
/-! ### orders from one pattern to another one -/
def mapsP (p q : Pt) : List (List Int) := (ordL p.labels q.labels p.labels.length []).filter fun o => decide (cmpP (turnP p o) q = 0)
section
variable {n : Nat} {p q : Pt}
theorem mem_maps (hp : PtOk n p) (hq : PtOk n q) {o : List Int} : o ∈ mapsP p q ↔ IsOrd n o ∧ turnP p o = q := by
  unfold mapsP
  rw [hp.len, List.mem_filter, mem_ords hq.len, decide_eq_true_eq, torP.eq0]
  constructor
  · exact fun h => ⟨h.1.1, h.2⟩
  · rintro ⟨ho, rfl⟩
    exact ⟨⟨ho, fun i hi => turnP_at ho hp hi⟩, rfl⟩
theorem maps_nodup (p q : Pt) : (mapsP p q).Nodup := (ordL_nodup _ _ _ _).filter _
theorem id_own (hp : PtOk n p) : idL n ∈ mapsP p p := (mem_maps hp hp).2 ⟨idL_ord n, turn_id hp⟩
theorem maps_len (hp : PtOk n p) {m : List Int} (hm : IsOrd n m) : (mapsP p (turnP p m)).length = (mapsP p p).length := by
  have hq := turnP_ok hm hp
  refine len_bij (maps_nodup _ _) (maps_nodup _ _) (fun o => thenL o (backL m)) (fun o => thenL o m) (fun o ho => ?_) (fun o ho => ?_)
  · obtain ⟨h1, h2⟩ := (mem_maps hp hq).1 ho
    refine ⟨(mem_maps hp hp).2 ⟨thenL_ord h1 (back_ord hm), by rw [← turn_then h1 (back_ord hm) hp, h2, turn_back hm hp]⟩, ?_⟩
    show thenL (thenL o (backL m)) m = o
    rw [then_assoc h1 (back_ord hm) hm, back_then hm, then_id h1]
  · obtain ⟨h1, h2⟩ := (mem_maps hp hp).1 ho
    refine ⟨(mem_maps hp hq).2 ⟨thenL_ord h1 hm, by rw [← turn_then h1 hm hp, h2]⟩, ?_⟩
    show thenL (thenL o m) (backL m) = o
    rw [then_assoc h1 hm (back_ord hm), then_back hm, then_id h1]
/-- the own orders' number goes into that of all orders -/
theorem own_all (hp : PtOk n p) : ∃ c, facN n = c * (mapsP p p).length := by
  obtain ⟨c, _, _, h⟩ := classes (turnP p) (mapsP p p).length (allO n).length (allO n) (Nat.le_refl _) (fun y hy => by
    have hy := mem_allO.1 hy
    rw [← maps_len hp hy]
    have hq := turnP_ok hy hp
    exact len_bij ((allO_nodup n).filter _) (maps_nodup _ _) id id (fun o ho => by
      obtain ⟨h1, h2⟩ := List.mem_filter.1 ho
      exact ⟨(mem_maps hp hq).2 ⟨mem_allO.1 h1, by simpa using h2⟩, rfl⟩) (fun o ho => by
      obtain ⟨h1, h2⟩ := (mem_maps hp hq).1 ho
      exact ⟨List.mem_filter.2 ⟨mem_allO.2 h1, by simpa using h2⟩, rfl⟩))
  rw [allO_len] at h
  exact ⟨_, h⟩
end
/-! ### the orders come in their own order -/
end Go.Gr
end

section
/- Degrees, an edge less, orbits: plain laws. -/
namespace Go.Gr
open Go.Proofs.YteigfapjiekdnaaGreatDoor
/-! ### degrees, edges, an edge less -/
section
variable {n : Nat} {p q : Pt} {b : List Int}
/-- without an edge -/
def lessP (p : Pt) (i : Nat) : Pt := ⟨p.labels, p.edges.take i ++ p.edges.drop (i + 1)⟩
theorem less_ok (hp : PtOk n p) (i : Nat) : PtOk n (lessP p i) := by
  have hs : (p.edges.take i ++ p.edges.drop (i + 1)).Sublist p.edges := by
    rw [← List.eraseIdx_eq_take_drop_succ]; exact List.eraseIdx_sublist _ _
  exact ⟨hp.len, fun e he => hp.edge e (hs.subset he), hp.strict.sublist hs⟩
/-! ### orbits -/
theorem own_ord (hp : PtOk n p) {o : List Int} (h : o ∈ mapsP p p) : IsOrd n o := ((mem_maps hp hp).1 h).1
end
end Go.Gr
end

section
/- quick, plain: images of turned patterns; own orders divide them. -/
namespace Go.Gr
open Go.Proofs.YteigfapjiekdnaaGreatDoor
theorem img_less {G : Gr} {p : Pt} (i : Nat) {L : List Int} (h : IsImg G p false L) : IsImg G (lessP p i) false L := by
  refine ⟨h.len, h.nodup, h.lt, h.label, fun a b x y hab hx hy hp => h.has a b x y hab hx hy ?_, fun e => by cases e⟩
  unfold phOf lessP at hp
  have := of_decide_eq_true hp
  rcases List.mem_append.1 this with h | h
  · exact decide_eq_true (List.mem_of_mem_take h)
  · exact decide_eq_true (List.mem_of_mem_drop h)
theorem turn_cases (a b : Int) : turn ⟨a, b⟩ = ⟨a, b⟩ ∨ turn ⟨a, b⟩ = ⟨b, a⟩ := by unfold turn; simp only [Edg.mk.injEq]; omega
theorem turn_inj {a b c d : Int} (h : turn ⟨a, b⟩ = turn ⟨c, d⟩) : (a = c ∧ b = d) ∨ (a = d ∧ b = c) := by
  unfold turn at h; simp only [Edg.mk.injEq] at h; omega
section
variable {n : Nat} {p : Pt} {b : List Int}
theorem phOf_turn (hb : IsOrd n b) (hp : PtOk n p) {i j : Nat} (hi : i < n) (hj : j < n) : phOf (turnP p b) (pl b i) (pl b j) = phOf p i j := by
  rw [Bool.eq_iff_iff]
  unfold phOf
  rw [decide_eq_true_eq, decide_eq_true_eq, (turnP_edges hb hp).2]
  constructor
  · rintro ⟨x, hx, e⟩
    obtain ⟨c, d, hcd, hdn, rfl⟩ := edge_nat (hp.edge x hx)
    rw [mv_is b hb (by omega) hdn] at e
    rcases turn_inj e with ⟨h1, h2⟩ | ⟨h1, h2⟩
    · have := pl_inj hb hi (show c < n by omega) (by omega)
      have := pl_inj hb hj hdn (by omega)
      subst_vars
      rw [turn_lt (by omega)]; exact hx
    · have := pl_inj hb hi hdn (by omega)
      have := pl_inj hb hj (show c < n by omega) (by omega)
      subst_vars
      rw [turn_gt (by omega)]; exact hx
  · intro h
    refine ⟨_, h, ?_⟩
    rcases turn_cases (i : Int) (j : Int) with e | e
    · rw [e, mv_is b hb hi hj]
    · rw [e, mv_is b hb hj hi, turn_comm]
def mvI (b L : List Int) : List Int := putL b L b.length
theorem mvI_len (b L : List Int) : (mvI b L).length = L.length := putL_len _ _ _
theorem mvI_at (hb : IsOrd n b) {L : List Int} (hL : L.length = n) {i : Nat} (hi : i < n) : (mvI b L)[pl b i]? = L[i]? := putL_at hb hL hi
theorem mvI_from (hb : IsOrd n b) {L : List Int} (hL : L.length = n) {k : Nat} {x : Int} (h : (mvI b L)[k]? = some x) : ∃ i, i < n ∧ pl b i = k ∧ L[i]? = some x := by
  have hk := (List.getElem?_eq_some_iff.1 h).1
  rw [mvI_len, hL] at hk
  obtain ⟨i, hi, e⟩ := pl_surj hb hk
  refine ⟨i, hi, e, ?_⟩
  rw [← mvI_at hb hL hi, e]; exact h
theorem list_ext {a c : List Int} {m : Nat} (ha : a.length = m) (hc : c.length = m) (h : ∀ k, k < m → a[k]? = c[k]?) : a = c := by
  refine List.ext_getElem? fun k => ?_
  by_cases hk : k < m
  · exact h k hk
  · rw [List.getElem?_eq_none (by omega), List.getElem?_eq_none (by omega)]
theorem nodup_of_at {L : List Int} (h : ∀ (i j : Nat) (x : Int), L[i]? = some x → L[j]? = some x → i = j) : L.Nodup := by
  rw [List.Nodup, List.pairwise_iff_getElem]
  intro i j hi hj hij e
  have := h i j L[i] (List.getElem?_eq_getElem hi) (by rw [List.getElem?_eq_getElem hj, e])
  omega
theorem img_turn {G : Gr} {w : Bool} (hb : IsOrd n b) (hp : PtOk n p) {L : List Int} (h : IsImg G p w L) : IsImg G (turnP p b) w (mvI b L) := by
  have hL : L.length = n := h.len.trans hp.len
  refine ⟨by rw [mvI_len, turnP_len, h.len], nodup_of_at fun i j x hx hy => ?_, fun x hx => ?_, fun k x hx => ?_, fun i j x y hij hx hy hh => ?_, fun hw i j x y hij hx hy hh => ?_⟩
  · obtain ⟨u, hu, rfl, hux⟩ := mvI_from hb hL hx
    obtain ⟨v, hv, rfl, hvx⟩ := mvI_from hb hL hy
    rw [nodup_at h.nodup hux hvx]
  · obtain ⟨k, hk⟩ := List.mem_iff_getElem?.1 hx
    obtain ⟨u, hu, rfl, hux⟩ := mvI_from hb hL hk
    exact h.lt x (List.mem_of_getElem? hux)
  · obtain ⟨u, hu, rfl, hux⟩ := mvI_from hb hL hx
    rw [h.label u x hux]
    unfold plOf
    rw [turnP_at hb hp hu]
  · obtain ⟨u, hu, rfl, hux⟩ := mvI_from hb hL hx
    obtain ⟨v, hv, rfl, hvx⟩ := mvI_from hb hL hy
    rw [phOf_turn hb hp hu hv] at hh
    exact h.has u v x y (fun e => hij (by rw [e])) hux hvx hh
  · obtain ⟨u, hu, rfl, hux⟩ := mvI_from hb hL hx
    obtain ⟨v, hv, rfl, hvx⟩ := mvI_from hb hL hy
    rw [phOf_turn hb hp hu hv]
    exact h.only hw u v x y (fun e => hij (by rw [e])) hux hvx hh
theorem mvI_id {L : List Int} (hL : L.length = n) : mvI (idL n) L = L := by
  refine list_ext (m := n) (by rw [mvI_len, hL]) hL fun k hk => ?_
  have := mvI_at (idL_ord n) hL hk
  rwa [pl_id hk] at this
theorem own_img {G : Gr} {w : Bool} (hp : PtOk n p) {o : List Int} (ho : o ∈ mapsP p p) {L : List Int} (h : IsImg G p w L) : IsImg G p w (mvI o L) := by
  have := img_turn (G := G) (w := w) (own_ord hp ho) hp h
  rwa [((mem_maps hp hp).1 ho).2] at this
end
end Go.Gr
end

section
/- mini, plain: what is taken in by own orders; supports of turned patterns. -/
namespace Go.Gr
open Go.Proofs.YteigfapjiekdnaaGreatDoor
theorem colS_same {X Y : List (List Int)} (h : ∀ L, L ∈ X ↔ L ∈ Y) (i : Nat) : colS X i = colS Y i := by
  refine rise_eq (colS_rise _ _) (colS_rise _ _) fun x => ?_
  rw [mem_colS, mem_colS]
  exact ⟨fun ⟨L, hL, e⟩ => ⟨L, (h L).1 hL, e⟩, fun ⟨L, hL, e⟩ => ⟨L, (h L).2 hL, e⟩⟩
theorem colsS_same {X Y : List (List Int)} (h : ∀ L, L ∈ X ↔ L ∈ Y) (k : Nat) : colsS k X = colsS k Y := by
  unfold colsS
  exact List.map_congr_left fun i _ => colS_same h i
theorem least_le_of {a b : List (List Int)} (hb : b ≠ []) (h : ∀ s ∈ b, ∃ t ∈ a, t.length ≤ s.length) : leastL a ≤ leastL b := by
  obtain ⟨s, hs, e, _⟩ := leastL_mem hb
  obtain ⟨t, ht, hle⟩ := h s hs
  rw [e]
  exact Nat.le_trans (leastL_le ht) hle
theorem colsS_ne {k : Nat} (hk : 0 < k) (X : List (List Int)) : colsS k X ≠ [] := fun e => by have := colsS_len k X; rw [e] at this; simp at this; omega
section
variable {n : Nat} {p : Pt} {b : List Int}
theorem col_turn {G : Gr} {w : Bool} (hb : IsOrd n b) (hp : PtOk n p) {i : Nat} (hi : i < n) : colS (imgP G (turnP p b) w) (pl b i) = colS (imgP G p w) i := by
  refine rise_eq (colS_rise _ _) (colS_rise _ _) fun x => ?_
  rw [mem_colS, mem_colS]
  constructor
  · rintro ⟨M, hM, e⟩
    have hI := mem_imgP.1 hM
    have hMn : M.length = n := by rw [hI.len, turnP_len, hp.len]
    have hL := img_turn (back_ord hb) (turnP_ok hb hp) hI
    rw [turn_back hb hp] at hL
    refine ⟨mvI (backL b) M, mem_imgP.2 hL, ?_⟩
    have := mvI_at (back_ord hb) hMn (pl_lt hb hi)
    rw [back_at hb hi] at this
    rw [this]; exact e
  · rintro ⟨L, hL, e⟩
    have hI := mem_imgP.1 hL
    have hLn : L.length = n := by rw [hI.len, hp.len]
    exact ⟨mvI b L, mem_imgP.2 (img_turn hb hp hI), by rw [mvI_at hb hLn hi]; exact e⟩
theorem least_turn_le {G : Gr} {w : Bool} (hb : IsOrd n b) (hp : PtOk n p) : leastL (colsS n (imgP G (turnP p b) w)) ≤ leastL (colsS n (imgP G p w)) := by
  by_cases h0 : n = 0
  · subst h0; exact Nat.le_refl _
  · refine least_le_of (colsS_ne (by omega) _) fun s hs => ?_
    obtain ⟨i, hi, rfl⟩ := mem_colsS.1 hs
    exact ⟨_, mem_colsS.2 ⟨pl b i, pl_lt hb hi, rfl⟩, by rw [col_turn hb hp hi]; exact Nat.le_refl _⟩
theorem least_turn {G : Gr} {w : Bool} (hb : IsOrd n b) (hp : PtOk n p) : leastL (colsS n (imgP G (turnP p b) w)) = leastL (colsS n (imgP G p w)) := by
  have h1 := least_turn_le (G := G) (w := w) hb hp
  have h2 := least_turn_le (G := G) (w := w) (back_ord hb) (turnP_ok hb hp)
  rw [turn_back hb hp] at h2
  omega
theorem least_zero {G : Gr} {w : Bool} (_hp : PtOk n p) (h0 : 0 < n) : leastL (colsS n (imgP G p w)) = 0 ↔ imgP G p w = [] := by
  constructor
  · intro h
    obtain ⟨s, hs, e, _⟩ := leastL_mem (colsS_ne h0 (imgP G p w))
    obtain ⟨i, hi, rfl⟩ := mem_colsS.1 hs
    have hnil : colS (imgP G p w) i = [] := List.eq_nil_of_length_eq_zero (e.symm.trans h)
    cases hX : imgP G p w with
    | nil => rfl
    | cons L X =>
      have hm : (L[i]?).getD 0 ∈ colS (imgP G p w) i := mem_colS.2 ⟨L, by rw [hX]; simp, rfl⟩
      rw [hnil] at hm; cases hm
  · intro h
    rw [h]
    have : leastL (colsS n []) ≤ (colS [] 0).length := leastL_le (mem_colsS.2 ⟨0, h0, rfl⟩)
    rw [colS_nil] at this
    simpa using this
theorem least_le_len {G : Gr} {w : Bool} (hp : PtOk n p) (h0 : 0 < n) : leastL (colsS n (imgP G p w)) ≤ G.labels.length := by
  refine Nat.le_trans (leastL_le (mem_colsS.2 ⟨0, h0, rfl⟩)) (Nat.le_trans (col_cnt (by rw [hp.len]; exact h0)) (cntL_le _ _ _))
theorem least_less {G : Gr} (i : Nat) : leastL (colsS n (imgP G p false)) ≤ leastL (colsS n (imgP G (lessP p i) false)) :=
  least_mono fun _L hL => mem_imgP.2 (img_less i (mem_imgP.1 hL))
/-- lists, turned by own orders -/
def ownI (p : Pt) (X : List (List Int)) : List (List Int) := X.flatMap fun L => (mapsP p p).map fun o => mvI o L
theorem ownI_same {G : Gr} {w : Bool} (hp : PtOk n p) : ∀ L, L ∈ ownI p (imgP G p w) ↔ L ∈ imgP G p w := by
  intro L
  unfold ownI
  rw [List.mem_flatMap]
  constructor
  · rintro ⟨M, hM, h⟩
    obtain ⟨o, ho, rfl⟩ := List.mem_map.1 h
    exact mem_imgP.2 (own_img hp ho (mem_imgP.1 hM))
  · intro h
    exact ⟨L, h, List.mem_map.2 ⟨_, id_own hp, mvI_id ((mem_imgP.1 h).len.trans hp.len)⟩⟩
end
end Go.Gr
end

section
/-
  DERIVED: THE SHELF's CONTRACTS AT THIS DUMP, IN PLAIN WORDS (tools/lay-plain.mjs out of 'YteigfapjiekdnaaGreatDoorLgrTmp.lean', which tools/lay-shelf.mjs wrote): THE SAME DECLARATIONS UNDER THE SAME NAMES: 'import', 'namespace', 'open', 'def', 'theorem' AND NOTHING ELSE: no command of the shelf's: FOR A HAND-IN. Each laying: the table of numbers ('.._ren') and one theorem, a field a fact of the dump's own or the kernel's comparison; each contract: ONE APPLICATION.
-/
namespace Go.Proofs
open Go.Shelf
def Tryz.growE_ren : Go.Shelf.Ren := ⟨fun | 4 => 127 | n => n, fun | 22 => 36 | 25 => 40 | 3 => 3 | 4 => 4 | 9 => 9 | 20 => 20 | 0 => 0 | 2 => 3 | n => n, fun | n => n⟩
theorem Tryz.growE : Go.Proofs.Lays8.n4 Tryz.prog Tryz.growE_ren := {
  mixed := by kernel_rfl
  f4 := ⟨Tryz.f127.name, by decide, Tryz.func127.trans (congrArg some (by kernel_rfl))⟩
  t0 := Tryz.underlying0
  a0 := Tryz.isAgg0
  z0 := Tryz.sizeOf0
  v0 := Tryz.zeroValue0
  t3 := Tryz.underlying3
  a3 := Tryz.isAgg3
  z3 := Tryz.sizeOf3
  v3 := Tryz.zeroValue3
  t4 := Tryz.underlying4
  a4 := Tryz.isAgg4
  z4 := Tryz.sizeOf4
  v4 := Tryz.zeroValue4
  t9 := Tryz.underlying9
  a9 := Tryz.isAgg9
  z9 := Tryz.sizeOf9
  v9 := Tryz.zeroValue9
  t20 := Tryz.underlying20
  a20 := Tryz.isAgg20
  z20 := Tryz.sizeOf20
  v20 := Tryz.zeroValue20
  t22 := Tryz.underlying36
  a22 := Tryz.isAgg36
  z22 := Tryz.sizeOf36
  v22 := Tryz.zeroValue36 }
end Go.Proofs
end

section
/- From an owned slice to data; slices.Clone of ints as data, in a world. -/
namespace Go.Proofs.YteigfapjiekdnaaGreatDoor
open Go.Sx Go.RowKit Go.Reg Go.Gr

set_option maxRecDepth 100000
theorem css_len {O : List Nat} {w : World} : ∀ {ds : List Da} {css : List (List Value)}, RepCss O w ds css → css.length = ds.length
  | [], css, h => by simp only [RepCss] at h; subst h; rfl
  | d :: ds, css, h => by
    simp only [RepCss] at h
    obtain ⟨c1, c2, rfl, _, h⟩ := h
    simp [css_len h]
theorem rep_of_sl {O : List Nat} {w : World} {E k : Nat} {v : Value} {css : List (List Value)} {ds : List Da} (hs : Sl E k id w v css) (hb : ∀ b, v.ownBlock = some b → b ∉ O) (hr : RepCss O w ds css) (hk : ∀ x ∈ css, RowOk k x) : Rep O w (.list k ds) v := by
  have hl := css_len hr
  rcases hs.2 with ⟨rfl, hn⟩ | ⟨g, cap, cur, rfl, _, hg, hnc, hcm, hcs, htake⟩
  · have : css = [] := List.eq_nil_of_length_eq_zero hn
    subst this
    have : ds = [] := List.eq_nil_of_length_eq_zero (by simpa using hl.symm)
    subst this
    exact ⟨[.slice none 0 0], by simp only [RepC]; exact ⟨none, 0, [], rfl, by simp, by unfold maxLen; omega, by simp [RepCss], by simp, .inl (by simp)⟩, rfl⟩
  · refine ⟨[.slice (some ⟨g, 0, none⟩) css.length cap], ?_, rfl⟩
    simp only [RepC]
    refine ⟨_, cap, css, by rw [hl], by rw [← hl]; exact hnc, hcm, hr, hk, .inr ⟨g, 0, rfl, hb g rfl, (Array.getElem?_eq_some_iff.1 hg).1, ?_⟩⟩
    have he : css.flatMap id = css.flatten := by simp [List.flatMap_id]
    intro j u hj
    rw [← he, ← htake, List.getElem?_take] at hj
    split at hj
    · simp only [World.cell?, hg, Nat.zero_add]
      simpa using hj
    · cases hj
theorem clone_rep {O : List Nat} {A : World} (hO : ∀ b ∈ O, b < A.heap.size) (hg : Glob C1 O A) {x : List Int} (hx : x.length ≤ 4294967296) {v : Value} (h : Rep O A (dIs x) v) :
    Calls Tryz.prog 55 #[v] A fun e B => ∃ u, e = .returned u ∧ Rep O B (dIs x) u ∧ Tch [] A B := by
  obtain ⟨_, hc⟩ := clone_sl x hx O A [v] hO hg (reps_cons h reps_nil)
  refine hc.mono ?_
  rintro e B ⟨u, css, ds, rfl, rfl, hs, hb, hr, hk, ht⟩
  refine ⟨u, rfl, rep_of_sl hs (fun b hb' hm => ?_) ?_ hk, ht⟩
  · have := hb b hb'; have := hO b hm; omega
  · exact RepCss.later ⟨Nat.le_refl _, fun _ _ _ => rfl, fun b hb' _ => fun hm => hb' (List.mem_append_left _ hm)⟩ _ css hr
end Go.Proofs.YteigfapjiekdnaaGreatDoor
end
