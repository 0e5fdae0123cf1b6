/- Merged: Cpc Cpd Imd Mra Lgr Seb Sec. -/
import Derived.Test.YteigfapjiekdnaaGreatDoorKtaw
import Derived.Test.YteigfapjiekdnaaGreatDoorKtao
import Derived.Shelf.Spec.SlicesGrow
import Derived.Test.YteigfapjiekdnaaGreatDoorRows
import Derived.Test.YteigfapjiekdnaaGreatDoorKtau
import Derived.WalkKit
import Derived.OwnWalkIn
import Derived.TacticsInMore
import Derived.LoopNIn
import Derived.LoopIn
section
/- The least form, the orders from one pattern to another one. -/
namespace Go.Gr
open Go.Proofs.YteigfapjiekdnaaGreatDoor
def sortI (l : List Int) : List Int := l.mergeSort fun x y => decide (x ≤ y)
theorem sortI_perm (l : List Int) : (sortI l).Perm l := List.mergeSort_perm _ _
theorem sortI_le (l : List Int) : (sortI l).Pairwise (· ≤ ·) := by
  have h := List.pairwise_mergeSort (le := fun x y : Int => decide (x ≤ y)) (fun a b c h1 h2 => by simp at *; omega) (fun a b => by simp; omega) l
  exact h.imp fun h => by simpa using h
theorem sortI_len (l : List Int) : (sortI l).length = l.length := (sortI_perm l).length_eq
/-! ### the least form -/
/-- the least so far, and the order that led to it -/
def stepB (p : Pt) (s : Option (Pt × List Int)) (o : List Int) : Option (Pt × List Int) := match s with
  | none => some (turnP p o, o)
  | some (q, b) => if cmpP (turnP p o) q < 0 then some (turnP p o, o) else some (q, b)
/-- the orders that the form is looked for among -/
def formO (p : Pt) : List (List Int) := ordL p.labels (sortI p.labels) p.labels.length []
def formB (p : Pt) : Option (Pt × List Int) := (formO p).foldl (stepB p) none
def formP (p : Pt) : Pt := ((formB p).getD (⟨[], []⟩, [])).1
def byP (p : Pt) : List Int := ((formB p).getD (⟨[], []⟩, [])).2
theorem best_some (p : Pt) : ∀ (xs : List (List Int)) (b : List Int), ∃ b', xs.foldl (stepB p) (some (turnP p b, b)) = some (turnP p b', b') ∧ (b' = b ∨ b' ∈ xs) ∧ cmpP (turnP p b') (turnP p b) ≤ 0 ∧ ∀ o ∈ xs, cmpP (turnP p b') (turnP p o) ≤ 0
  | [], b => ⟨b, rfl, .inl rfl, Int.le_of_eq (torP.self _), by simp⟩
  | x :: xs, b => by
    rw [List.foldl_cons]
    by_cases h : cmpP (turnP p x) (turnP p b) < 0
    · obtain ⟨b', h1, h2, h3, h4⟩ := best_some p xs x
      refine ⟨b', by rw [← h1]; simp only [stepB]; rw [if_pos h], .inr (by rcases h2 with rfl | h2 <;> simp [*]), torP.le_trans h3 (Int.le_of_lt h), fun o ho => ?_⟩
      rcases List.mem_cons.1 ho with rfl | ho
      · exact h3
      · exact h4 o ho
    · obtain ⟨b', h1, h2, h3, h4⟩ := best_some p xs b
      refine ⟨b', by rw [← h1]; simp only [stepB]; rw [if_neg h], by rcases h2 with rfl | h2 <;> simp [*], h3, fun o ho => ?_⟩
      rcases List.mem_cons.1 ho with rfl | ho
      · exact torP.le_trans h3 (torP.not_lt.1 h)
      · exact h4 o ho
theorem best_of (p : Pt) {xs : List (List Int)} (h : xs ≠ []) : ∃ b, xs.foldl (stepB p) none = some (turnP p b, b) ∧ b ∈ xs ∧ ∀ o ∈ xs, cmpP (turnP p b) (turnP p o) ≤ 0 := by
  cases xs with
  | nil => exact absurd rfl h
  | cons x xs =>
    obtain ⟨b, h1, h2, h3, h4⟩ := best_some p xs x
    refine ⟨b, h1, by rcases h2 with rfl | h2 <;> simp [*], fun o ho => ?_⟩
    rcases List.mem_cons.1 ho with rfl | ho
    · exact h3
    · exact h4 o ho
theorem mem_formO {n : Nat} {p : Pt} (hp : PtOk n p) {o : List Int} : o ∈ formO p ↔ IsOrd n o ∧ ∀ i, i < n → (sortI p.labels)[pl o i]? = p.labels[i]? := by
  unfold formO
  rw [hp.len]
  exact mem_ords (by rw [sortI_len, hp.len])
theorem mem_formO2 {n : Nat} {p : Pt} (hp : PtOk n p) {o : List Int} : o ∈ formO p ↔ IsOrd n o ∧ (turnP p o).labels = sortI p.labels := by
  rw [mem_formO hp]
  refine and_congr_right fun ho => ⟨fun h => ?_, fun h i hi => ?_⟩
  · apply List.ext_getElem?
    intro k
    by_cases hk : k < n
    · obtain ⟨i, hi, rfl⟩ := pl_surj ho hk
      rw [turnP_at ho hp hi, h i hi]
    · have := hp.len
      rw [List.getElem?_eq_none (by rw [turnP_len]; omega), List.getElem?_eq_none (by rw [sortI_len]; omega)]
  · rw [← h, turnP_at ho hp hi]
theorem turnP_labels {n : Nat} {p : Pt} (hp : PtOk n p) {o : List Int} (ho : IsOrd n o) : (turnP p o).labels.Perm p.labels := by
  -- the places of one are those of the other
  have h1 : (turnP p o).labels = (List.range n).map fun k => ((turnP p o).labels[k]?).getD 0 := by
    apply List.ext_getElem?
    intro k
    by_cases hk : k < n
    · have hl : k < (turnP p o).labels.length := by rw [turnP_len, hp.len]; exact hk
      rw [List.getElem?_map, List.getElem?_range hk]; simp [hl]
    · rw [List.getElem?_eq_none (by rw [turnP_len, hp.len]; omega), List.getElem?_eq_none (by simp; omega)]
  have h2 : p.labels = (List.range n).map fun i => ((turnP p o).labels[pl o i]?).getD 0 := by
    apply List.ext_getElem?
    intro i
    by_cases hi : i < n
    · rw [List.getElem?_map, List.getElem?_range hi, Option.map_some, turnP_at ho hp hi, List.getElem?_eq_getElem (by rw [hp.len]; exact hi)]; rfl
    · rw [List.getElem?_eq_none (by rw [hp.len]; omega), List.getElem?_eq_none (by simp; omega)]
  have h3 : ((List.range n).map (pl o)).Perm (List.range n) := by
    refine perm_of_sub ?_ (fun x hx => ?_) (by simp)
    · refine List.pairwise_map.2 (List.Pairwise.imp_of_mem ?_ List.nodup_range)
      intro i j hi hj hne e
      exact hne (pl_inj ho (List.mem_range.1 hi) (List.mem_range.1 hj) e)
    · obtain ⟨i, hi, rfl⟩ := List.mem_map.1 hx
      exact List.mem_range.2 (pl_lt ho (List.mem_range.1 hi))
  have h4 := h3.map fun k => ((turnP p o).labels[k]?).getD 0
  rw [List.map_map] at h4
  rw [← h1] at h4
  refine h4.symm.trans ?_
  rw [show ((fun k => ((turnP p o).labels[k]?).getD 0) ∘ pl o) = fun i => ((turnP p o).labels[pl o i]?).getD 0 from rfl, ← h2]
/-- some order lays the labels in their order -/
theorem formO_ne {n : Nat} {p : Pt} (hp : PtOk n p) : formO p ≠ [] := by
  -- an order for every permutation of a list
  have key : ∀ {l m : List Int}, m.Perm l → ∃ f : Nat → Nat, (∀ i, i < l.length → f i < l.length) ∧ (∀ i j, i < l.length → j < l.length → f i = f j → i = j) ∧ ∀ i, i < l.length → m[f i]? = l[i]? := by
    intro l
    induction l with
    | nil => intro m h; exact ⟨id, by simp, by simp, by simp⟩
    | cons x l ih =>
      intro m h
      have hx : x ∈ m := h.mem_iff.2 (by simp)
      obtain ⟨k, hk, e⟩ := List.mem_iff_getElem.1 hx
      have hml := h.length_eq
      simp only [List.length_cons] at hml
      have hp1 : (m.eraseIdx k).Perm l := by
        have h1 : m.Perm (m[k] :: m.eraseIdx k) := by
          conv => lhs; rw [← List.take_append_drop k m, List.drop_eq_getElem_cons hk]
          rw [List.eraseIdx_eq_take_drop_succ]
          exact List.perm_middle
        rw [e] at h1
        exact (List.perm_cons x).1 (h1.symm.trans h)
      obtain ⟨f, f1, f2, f3⟩ := ih hp1
      refine ⟨fun i => match i with
        | 0 => k
        | i + 1 => if f i < k then f i else f i + 1, fun i hi => ?_, fun i j hi hj hij => ?_, fun i hi => ?_⟩
      · cases i with
        | zero => simp only [List.length_cons]; omega
        | succ i =>
          have := f1 i (by simpa using hi)
          simp only [List.length_cons]; split <;> omega
      · cases i with
        | zero =>
          cases j with
          | zero => rfl
          | succ j => simp only at hij; split at hij <;> omega
        | succ i =>
          cases j with
          | zero => simp only at hij; split at hij <;> omega
          | succ j =>
            simp only at hij
            have : f i = f j := by split at hij <;> split at hij <;> omega
            have := f2 i j (by simpa using hi) (by simpa using hj) this
            omega
      · cases i with
        | zero => simp only; rw [List.getElem?_eq_getElem hk, e]; rfl
        | succ i =>
          have := f3 i (by simpa using hi)
          rw [List.getElem?_cons_succ, ← this, List.getElem?_eraseIdx]
          simp only
          split
          · rfl
          · rfl
  obtain ⟨f, f1, f2, f3⟩ := key (sortI_perm p.labels)
  rw [hp.len] at f1 f2 f3
  have : ((List.range n).map fun i => (f i : Int)) ∈ formO p := (mem_formO hp).2 ⟨ord_of f1 f2, fun i hi => by rw [pl_of hi]; exact f3 i hi⟩
  exact List.ne_nil_of_mem this
theorem form_spec {n : Nat} {p : Pt} (hp : PtOk n p) : formB p = some (formP p, byP p) ∧ IsOrd n (byP p) ∧ formP p = turnP p (byP p) ∧ (formP p).labels = sortI p.labels ∧ ∀ o, IsOrd n o → cmpP (formP p) (turnP p o) ≤ 0 := by
  obtain ⟨b, h1, h2, h3⟩ := best_of p (formO_ne hp)
  have hb : formB p = some (turnP p b, b) := h1
  have e1 : formP p = turnP p b := by unfold formP; rw [hb]; rfl
  have e2 : byP p = b := by unfold byP; rw [hb]; rfl
  obtain ⟨g1, g2⟩ := (mem_formO2 hp).1 h2
  rw [e1, e2]
  refine ⟨hb, g1, rfl, g2, fun o ho => ?_⟩
  have hl := sorted_least (sortI_le p.labels) ((turnP_labels hp ho).trans (sortI_perm p.labels).symm)
  rcases (torF torI).le_of hl with h | h
  · exact Int.le_of_lt (cmpP_labels (by rw [turnP_len, turnP_len]) (by rw [g2]; exact h))
  · exact h3 o ((mem_formO2 hp).2 ⟨ho, h.symm⟩)
/-! ### orders from one pattern to another one -/
def mapsP (p q : Pt) : List (List Int) := (ordL p.labels q.labels p.labels.length []).filter fun o => decide (cmpP (turnP p o) q = 0)
section
variable {n : Nat} {p q : Pt}
theorem mem_maps (hp : PtOk n p) (hq : PtOk n q) {o : List Int} : o ∈ mapsP p q ↔ IsOrd n o ∧ turnP p o = q := by
  unfold mapsP
  rw [hp.len, List.mem_filter, mem_ords hq.len, decide_eq_true_eq, torP.eq0]
  constructor
  · exact fun h => ⟨h.1.1, h.2⟩
  · rintro ⟨ho, rfl⟩
    exact ⟨⟨ho, fun i hi => turnP_at ho hp hi⟩, rfl⟩
theorem maps_nodup (p q : Pt) : (mapsP p q).Nodup := (ordL_nodup _ _ _ _).filter _
theorem id_own (hp : PtOk n p) : idL n ∈ mapsP p p := (mem_maps hp hp).2 ⟨idL_ord n, turn_id hp⟩
theorem maps_len (hp : PtOk n p) {m : List Int} (hm : IsOrd n m) : (mapsP p (turnP p m)).length = (mapsP p p).length := by
  have hq := turnP_ok hm hp
  refine len_bij (maps_nodup _ _) (maps_nodup _ _) (fun o => thenL o (backL m)) (fun o => thenL o m) (fun o ho => ?_) (fun o ho => ?_)
  · obtain ⟨h1, h2⟩ := (mem_maps hp hq).1 ho
    refine ⟨(mem_maps hp hp).2 ⟨thenL_ord h1 (back_ord hm), by rw [← turn_then h1 (back_ord hm) hp, h2, turn_back hm hp]⟩, ?_⟩
    show thenL (thenL o (backL m)) m = o
    rw [then_assoc h1 (back_ord hm) hm, back_then hm, then_id h1]
  · obtain ⟨h1, h2⟩ := (mem_maps hp hp).1 ho
    refine ⟨(mem_maps hp hq).2 ⟨thenL_ord h1 hm, by rw [← turn_then h1 hm hp, h2]⟩, ?_⟩
    show thenL (thenL o m) (backL m) = o
    rw [then_assoc h1 hm (back_ord hm), then_back hm, then_id h1]
/-- the own orders' number goes into that of all orders -/
theorem own_all (hp : PtOk n p) : ∃ c, facN n = c * (mapsP p p).length := by
  obtain ⟨c, _, _, h⟩ := classes (turnP p) (mapsP p p).length (allO n).length (allO n) (Nat.le_refl _) (fun y hy => by
    have hy := mem_allO.1 hy
    rw [← maps_len hp hy]
    have hq := turnP_ok hy hp
    exact len_bij ((allO_nodup n).filter _) (maps_nodup _ _) id id (fun o ho => by
      obtain ⟨h1, h2⟩ := List.mem_filter.1 ho
      exact ⟨(mem_maps hp hq).2 ⟨mem_allO.1 h1, by simpa using h2⟩, rfl⟩) (fun o ho => by
      obtain ⟨h1, h2⟩ := (mem_maps hp hq).1 ho
      exact ⟨List.mem_filter.2 ⟨mem_allO.2 h1, by simpa using h2⟩, rfl⟩))
  rw [allO_len] at h
  exact ⟨_, h⟩
end
/-! ### the orders come in their own order -/
end Go.Gr
end

section
/- Degrees, an edge less, orbits: plain laws. -/
namespace Go.Gr
open Go.Proofs.YteigfapjiekdnaaGreatDoor
/-! ### degrees, edges, an edge less -/
section
variable {n : Nat} {p q : Pt} {b : List Int}
/-! ### orbits -/
theorem own_ord (hp : PtOk n p) {o : List Int} (h : o ∈ mapsP p p) : IsOrd n o := ((mem_maps hp hp).1 h).1
theorem own_back (hp : PtOk n p) {o : List Int} (h : o ∈ mapsP p p) : backL o ∈ mapsP p p := by
  obtain ⟨h1, h2⟩ := (mem_maps hp hp).1 h
  refine (mem_maps hp hp).2 ⟨back_ord h1, ?_⟩
  have := turn_back h1 hp
  rwa [h2] at this
theorem own_then (hp : PtOk n p) {o u : List Int} (h : o ∈ mapsP p p) (hu : u ∈ mapsP p p) : thenL o u ∈ mapsP p p := by
  obtain ⟨h1, h2⟩ := (mem_maps hp hp).1 h
  obtain ⟨g1, g2⟩ := (mem_maps hp hp).1 hu
  exact (mem_maps hp hp).2 ⟨thenL_ord h1 g1, by rw [← turn_then h1 g1 hp, h2, g2]⟩
/-- where own orders lead a vertex -/
def InOrb (p : Pt) (v u : Nat) : Prop := ∃ o ∈ mapsP p p, pl o v = u
theorem orb_self (hp : PtOk n p) {v : Nat} (hv : v < n) : InOrb p v v := ⟨_, id_own hp, pl_id hv⟩
theorem orb_lt (hp : PtOk n p) {v u : Nat} (hv : v < n) (h : InOrb p v u) : u < n := by
  obtain ⟨o, ho, rfl⟩ := h; exact pl_lt (own_ord hp ho) hv
theorem orb_sym (hp : PtOk n p) {v u : Nat} (hv : v < n) (h : InOrb p v u) : InOrb p u v := by
  obtain ⟨o, ho, rfl⟩ := h
  exact ⟨backL o, own_back hp ho, back_at (own_ord hp ho) hv⟩
theorem orb_trans (hp : PtOk n p) {v u w : Nat} (hv : v < n) (h : InOrb p v u) (h' : InOrb p u w) : InOrb p v w := by
  obtain ⟨o, ho, rfl⟩ := h
  obtain ⟨o', ho', rfl⟩ := h'
  exact ⟨thenL o o', own_then hp ho ho', pl_then (own_ord hp ho) (own_ord hp ho') hv⟩
end
end Go.Gr
end

section
/- quick, plain: images of turned patterns; own orders divide them. -/
namespace Go.Gr
open Go.Proofs.YteigfapjiekdnaaGreatDoor
section
variable {n : Nat} {p : Pt} {b : List Int}
def mvI (b L : List Int) : List Int := putL b L b.length
theorem mvI_len (b L : List Int) : (mvI b L).length = L.length := putL_len _ _ _
theorem mvI_at (hb : IsOrd n b) {L : List Int} (hL : L.length = n) {i : Nat} (hi : i < n) : (mvI b L)[pl b i]? = L[i]? := putL_at hb hL hi
theorem list_ext {a c : List Int} {m : Nat} (ha : a.length = m) (hc : c.length = m) (h : ∀ k, k < m → a[k]? = c[k]?) : a = c := by
  refine List.ext_getElem? fun k => ?_
  by_cases hk : k < m
  · exact h k hk
  · rw [List.getElem?_eq_none (by omega), List.getElem?_eq_none (by omega)]
theorem mvI_then {a : List Int} (ha : IsOrd n a) (hb : IsOrd n b) {L : List Int} (hL : L.length = n) : mvI b (mvI a L) = mvI (thenL a b) L := by
  refine list_ext (m := n) (by rw [mvI_len, mvI_len, hL]) (by rw [mvI_len, hL]) fun k hk => ?_
  obtain ⟨i, hi, e⟩ := pl_surj (thenL_ord ha hb) hk
  rw [← e, mvI_at (thenL_ord ha hb) hL hi, pl_then ha hb hi, mvI_at hb (by rw [mvI_len, hL]) (pl_lt ha hi), mvI_at ha hL hi]
theorem mvI_id {L : List Int} (hL : L.length = n) : mvI (idL n) L = L := by
  refine list_ext (m := n) (by rw [mvI_len, hL]) hL fun k hk => ?_
  have := mvI_at (idL_ord n) hL hk
  rwa [pl_id hk] at this
end
end Go.Gr
end

section
/- mini, plain: what is taken in by own orders; supports of turned patterns. -/
namespace Go.Gr
open Go.Proofs.YteigfapjiekdnaaGreatDoor
theorem colS_same {X Y : List (List Int)} (h : ∀ L, L ∈ X ↔ L ∈ Y) (i : Nat) : colS X i = colS Y i := by
  refine rise_eq (colS_rise _ _) (colS_rise _ _) fun x => ?_
  rw [mem_colS, mem_colS]
  exact ⟨fun ⟨L, hL, e⟩ => ⟨L, (h L).1 hL, e⟩, fun ⟨L, hL, e⟩ => ⟨L, (h L).2 hL, e⟩⟩
theorem colsS_same {X Y : List (List Int)} (h : ∀ L, L ∈ X ↔ L ∈ Y) (k : Nat) : colsS k X = colsS k Y := by
  unfold colsS
  exact List.map_congr_left fun i _ => colS_same h i
section
variable {n : Nat} {p : Pt} {b : List Int}
/-- lists, turned by own orders -/
def ownI (p : Pt) (X : List (List Int)) : List (List Int) := X.flatMap fun L => (mapsP p p).map fun o => mvI o L
/-- what is closed under own orders has one set for the vertices of an orbit -/
theorem col_orb (hp : PtOk n p) {X : List (List Int)} (hX : ∀ L ∈ X, L.length = n) {u v : Nat} (hu : u < n) (h : InOrb p u v) : colS (ownI p X) u = colS (ownI p X) v := by
  have key : ∀ {u v : Nat}, u < n → InOrb p u v → ∀ x, x ∈ colS (ownI p X) u → x ∈ colS (ownI p X) v := by
    rintro u v hu ⟨o, ho, rfl⟩ x hx
    obtain ⟨M, hM, e⟩ := mem_colS.1 hx
    obtain ⟨L, hL, hM⟩ := List.mem_flatMap.1 hM
    obtain ⟨a, ha, rfl⟩ := List.mem_map.1 hM
    have hLn := hX L hL
    refine mem_colS.2 ⟨mvI (thenL a o) L, List.mem_flatMap.2 ⟨L, hL, List.mem_map.2 ⟨_, own_then hp ha ho, rfl⟩⟩, ?_⟩
    rw [← mvI_then (own_ord hp ha) (own_ord hp ho) hLn, mvI_at (own_ord hp ho) (by rw [mvI_len, hLn]) hu]
    exact e
  exact rise_eq (colS_rise _ _) (colS_rise _ _) fun x => ⟨key hu h x, key (orb_lt hp hu h) (orb_sym hp hu h) x⟩
end
end Go.Gr
end

section
/- From an owned slice to data; slices.Clone of ints as data, in a world. -/
namespace Go.Proofs.YteigfapjiekdnaaGreatDoor
open Go.Sx Go.RowKit Go.Reg Go.Gr

set_option maxRecDepth 100000
theorem css_len {O : List Nat} {w : World} : ∀ {ds : List Da} {css : List (List Value)}, RepCss O w ds css → css.length = ds.length
  | [], css, h => by simp only [RepCss] at h; subst h; rfl
  | d :: ds, css, h => by
    simp only [RepCss] at h
    obtain ⟨c1, c2, rfl, _, h⟩ := h
    simp [css_len h]
theorem rep_of_sl {O : List Nat} {w : World} {E k : Nat} {v : Value} {css : List (List Value)} {ds : List Da} (hs : Sl E k id w v css) (hb : ∀ b, v.ownBlock = some b → b ∉ O) (hr : RepCss O w ds css) (hk : ∀ x ∈ css, RowOk k x) : Rep O w (.list k ds) v := by
  have hl := css_len hr
  rcases hs.2 with ⟨rfl, hn⟩ | ⟨g, cap, cur, rfl, _, hg, hnc, hcm, hcs, htake⟩
  · have : css = [] := List.eq_nil_of_length_eq_zero hn
    subst this
    have : ds = [] := List.eq_nil_of_length_eq_zero (by simpa using hl.symm)
    subst this
    exact ⟨[.slice none 0 0], by simp only [RepC]; exact ⟨none, 0, [], rfl, by simp, by unfold maxLen; omega, by simp [RepCss], by simp, .inl (by simp)⟩, rfl⟩
  · refine ⟨[.slice (some ⟨g, 0, none⟩) css.length cap], ?_, rfl⟩
    simp only [RepC]
    refine ⟨_, cap, css, by rw [hl], by rw [← hl]; exact hnc, hcm, hr, hk, .inr ⟨g, 0, rfl, hb g rfl, (Array.getElem?_eq_some_iff.1 hg).1, ?_⟩⟩
    have he : css.flatMap id = css.flatten := by simp [List.flatMap_id]
    intro j u hj
    rw [← he, ← htake, List.getElem?_take] at hj
    split at hj
    · simp only [World.cell?, hg, Nat.zero_add]
      simpa using hj
    · cases hj
theorem clone_rep {O : List Nat} {A : World} (hO : ∀ b ∈ O, b < A.heap.size) (hg : Glob C1 O A) {x : List Int} (hx : x.length ≤ 4294967296) {v : Value} (h : Rep O A (dIs x) v) :
    Calls Tryz.prog 55 #[v] A fun e B => ∃ u, e = .returned u ∧ Rep O B (dIs x) u ∧ Tch [] A B := by
  obtain ⟨_, hc⟩ := clone_sl x hx O A [v] hO hg (reps_cons h reps_nil)
  refine hc.mono ?_
  rintro e B ⟨u, css, ds, rfl, rfl, hs, hb, hr, hk, ht⟩
  refine ⟨u, rfl, rep_of_sl hs (fun b hb' hm => ?_) ?_ hk, ht⟩
  · have := hb b hb'; have := hO b hm; omega
  · exact RepCss.later ⟨Nat.le_refl _, fun _ _ _ => rfl, fun b hb' _ => fun hm => hb' (List.mem_append_left _ hm)⟩ _ css hr
end Go.Proofs.YteigfapjiekdnaaGreatDoor
end

section
/- canon.search: no place to go. -/
namespace Go.Proofs.YteigfapjiekdnaaGreatDoor
open Go.Sx Go.RowKit Go.Reg Go.Gr

set_option maxRecDepth 100000
theorem rep_list_shape {O : List Nat} {w : World} {l : List Int} {v : Value} (h : Rep O w (dInts l) v) : ∃ a c, v = .slice a l.length c ∧ l.length ≤ c ∧ c ≤ maxLen := by
  obtain ⟨cs, r, rfl⟩ := h
  simp only [dInts, RepC] at r
  obtain ⟨a, c, css, rfl, h1, h2, _⟩ := r
  rw [List.length_map] at h1
  exact ⟨a, c, by rw [List.length_map]; rfl, h1, h2⟩
set_option maxHeartbeats 4000000 in
theorem search_zero (fr to : List Int) : SearchAt fr to 0 := by
  intro ah hk haj h8 h8' l XS J Jx hJ hY O A vf vt va pre hO hgl rf rt ra hj hpre
  have hcl := fun (B : World) => @clone_rep O A hO hgl (ah.map fun j : Nat => (j : Int)) (by simp; omega) va ra
  obtain ⟨a1, c1, rfl, _, _⟩ := rep_list_shape rf
  obtain ⟨a2, c2, rfl, _, _⟩ := rep_list_shape rt
  obtain ⟨a3, c3, rfl, _, _⟩ := rep_list_shape ra
  have hcl := hcl A
  rw [List.length_map] at hcl ⊢
  have hlen : fr.length = ah.length := by omega
  rw [hlen]
  refine callsIn_of_wp Tryz.func116 rfl trivial ?_ rfl
  simp only [Tryz.ntmps116, List.size_toArray, List.length_cons, List.length_nil, Nat.reduceAdd, Nat.reduceSub, Array.replicate_succ, Array.replicate_zero, List.push_toArray, List.append_toArray, List.nil_append, List.cons_append]
  gi_wp2_with (refine ⟨trivial, ?_⟩; gi_at_call 55; refine (callsIn_wide.2 hcl).mono ?_; rintro e B ⟨u, rfl, hru, htB⟩; obtain ⟨fn, tmps, assign, body, hy, hR⟩ := hY O pre (ah.map fun j : Nat => (j : Int)) u B (fun b hb => Nat.lt_of_lt_of_le (hO b hb) htB.size) (hJ _ _ _ _ hj htB) hpre hru)
  refine hR.mono ?_
  rintro e B2 ⟨S', hg2, ⟨rfl, hj2⟩ | ⟨rfl, hx2⟩⟩
  · gi_wp2
    go_ret
    exact ⟨S', (Grow.same (htB.mono (by simp)) hO).trans hg2, .inl ⟨rfl, hj2⟩⟩
  · gi_wp2
    go_ret
    exact ⟨S', (Grow.same (htB.mono (by simp)) hO).trans hg2, .inr ⟨rfl, _, List.prefix_refl _, hx2⟩⟩
end Go.Proofs.YteigfapjiekdnaaGreatDoor
end
