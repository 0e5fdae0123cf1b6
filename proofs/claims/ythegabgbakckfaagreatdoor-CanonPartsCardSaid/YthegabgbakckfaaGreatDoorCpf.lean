/- The orbits of a pattern: plain laws. -/
import Derived.Test.YthegabgbakckfaaGreatDoorZcd
import Derived.Test.YthegabgbakckfaaGreatDoorZpi
namespace Go.Gr
open Go.Proofs.YthegabgbakckfaaGreatDoor
/-! ### the orbits of a pattern -/
/-- the vertices that own orders lead v to -/
def orbS (p : Pt) (v : Nat) : List Int := setOf ((mapsP p p).map fun o => (o[v]?).getD 0)
instance (p : Pt) (v u : Nat) : Decidable (InOrb p v u) := by unfold InOrb; exact inferInstance
/-- vertices in whose orbit none comes ahead -/
def firstV (p : Pt) (v : Nat) : Bool := (List.range v).all fun u => !decide (InOrb p u v)
/-- the orbits of the vertices below m -/
def orbsU (p : Pt) (m : Nat) : List (List Int) := ((List.range m).filter fun v => firstV p v).map (orbS p)
section
variable {n : Nat} {p : Pt}
theorem orbS_rise (p : Pt) (v : Nat) : (orbS p v).Pairwise (· < ·) := (setOf_spec _).1
theorem mem_orbS (hp : PtOk n p) {v : Nat} (hv : v < n) {x : Int} : x ∈ orbS p v ↔ ∃ u : Nat, x = u ∧ InOrb p v u := by
  unfold orbS InOrb
  rw [(setOf_spec _).2, List.mem_map]
  constructor
  · rintro ⟨o, ho, rfl⟩
    refine ⟨pl o v, ?_, o, ho, rfl⟩
    rw [pl_at (own_ord hp ho) hv]; rfl
  · rintro ⟨u, rfl, o, ho, rfl⟩
    exact ⟨o, ho, by rw [pl_at (own_ord hp ho) hv]; rfl⟩
theorem mem_orbS_nat (hp : PtOk n p) {v : Nat} (hv : v < n) {u : Nat} : (u : Int) ∈ orbS p v ↔ InOrb p v u := by
  rw [mem_orbS hp hv]
  exact ⟨fun ⟨w, e, h⟩ => by have : u = w := by omega
                             subst this; exact h, fun h => ⟨u, rfl, h⟩⟩
theorem orbS_nodup (p : Pt) (v : Nat) : (orbS p v).Nodup := (orbS_rise p v).imp fun h e => by omega
theorem orbS_eq (hp : PtOk n p) {v u : Nat} (hv : v < n) (h : InOrb p v u) : orbS p u = orbS p v := by
  have hu := orb_lt hp hv h
  refine rise_eq (orbS_rise _ _) (orbS_rise _ _) fun x => ?_
  rw [mem_orbS hp hu, mem_orbS hp hv]
  constructor
  · rintro ⟨w, rfl, hw⟩; exact ⟨w, rfl, orb_trans hp hv h hw⟩
  · rintro ⟨w, rfl, hw⟩; exact ⟨w, rfl, orb_trans hp hu (orb_sym hp hv h) hw⟩
theorem first_iff {v : Nat} : firstV p v = true ↔ ∀ u, u < v → ¬ InOrb p u v := by
  unfold firstV
  simp
theorem orbsU_step (p : Pt) (m : Nat) : orbsU p (m + 1) = orbsU p m ++ if firstV p m = true then [orbS p m] else [] := by
  unfold orbsU
  rw [List.range_succ, List.filter_append, List.map_append]
  congr 1
  cases h : firstV p m <;> simp [h]
/-- is a vertex in an orbit of one below m? -/
def doneV (p : Pt) (m u : Nat) : Bool := (List.range m).any fun v => decide (InOrb p v u)
theorem done_iff {m u : Nat} : doneV p m u = true ↔ ∃ v, v < m ∧ InOrb p v u := by
  unfold doneV; simp
theorem done_step (p : Pt) (m u : Nat) : doneV p (m + 1) u = (doneV p m u || decide (InOrb p m u)) := by
  unfold doneV
  rw [List.range_succ, List.any_append]; simp
theorem done_first {m : Nat} : doneV p m m = !firstV p m := by
  cases h : firstV p m with
  | true =>
    have := first_iff.1 h
    rw [Bool.not_true, Bool.eq_false_iff]
    intro hd
    obtain ⟨v, h1, h2⟩ := done_iff.1 hd
    exact this v h1 h2
  | false =>
    rw [Bool.not_false]
    have : ¬ ∀ u, u < m → ¬ InOrb p u m := fun hh => by rw [first_iff.2 hh] at h; cases h
    obtain ⟨u, hu⟩ := Classical.not_forall.1 this
    obtain ⟨h1, h2⟩ := Classical.not_imp.1 hu
    exact done_iff.2 ⟨u, h1, Classical.not_not.1 h2⟩
/-- one that is done adds nothing -/
theorem done_same (hp : PtOk n p) {m : Nat} (hm : m < n) (h : doneV p m m = true) (u : Nat) : doneV p (m + 1) u = doneV p m u := by
  rw [done_step]
  cases hd : doneV p m u with
  | true => rfl
  | false =>
    rw [Bool.false_or, decide_eq_false_iff_not]
    intro hh
    obtain ⟨v, h1, h2⟩ := done_iff.1 h
    rw [done_iff.2 ⟨v, h1, orb_trans hp (by omega) h2 hh⟩] at hd; cases hd
/-- the orbits found, by their first vertices -/
theorem orbs_at {i : Nat} {l : List Int} (h : (orbsU p n)[i]? = some l) : ∃ v, ((List.range n).filter fun v => firstV p v)[i]? = some v ∧ v < n ∧ firstV p v = true ∧ l = orbS p v := by
  unfold orbsU at h
  rw [List.getElem?_map] at h
  obtain ⟨v, h1, rfl⟩ := Option.map_eq_some_iff.1 h
  obtain ⟨h2, h3⟩ := List.mem_filter.1 (List.mem_of_getElem? h1)
  exact ⟨v, h1, List.mem_range.1 h2, h3, rfl⟩
theorem orbS_head (hp : PtOk n p) {v : Nat} (hv : v < n) (hf : firstV p v = true) : (orbS p v)[0]? = some (v : Int) := by
  have hm := (mem_orbS_nat hp hv).2 (orb_self hp hv)
  have hr := orbS_rise p v
  have hin := fun x => (mem_orbS hp hv (x := x)).1
  generalize orbS p v = L at hm hr hin
  cases L with
  | nil => simp at hm
  | cons x L =>
    obtain ⟨h1, h2⟩ := List.pairwise_cons.1 hr
    rcases List.mem_cons.1 hm with e | h
    · rw [e]; rfl
    · have h3 := h1 _ h
      obtain ⟨u, rfl, hu⟩ := hin x (by simp)
      exact absurd (orb_sym hp hv hu) (first_iff.1 hf u (by omega))
theorem firsts_lt {i j v w : Nat} (hij : i < j) (hi : ((List.range n).filter fun v => firstV p v)[i]? = some v) (hj : ((List.range n).filter fun v => firstV p v)[j]? = some w) : v < w := by
  have h : ((List.range n).filter fun v => firstV p v).Pairwise (· < ·) := List.pairwise_lt_range.filter _
  obtain ⟨hi', e1⟩ := List.getElem?_eq_some_iff.1 hi
  obtain ⟨hj', e2⟩ := List.getElem?_eq_some_iff.1 hj
  have := List.pairwise_iff_getElem.1 h i j hi' hj' hij
  rw [e1, e2] at this; exact this
/-- two of them have no vertex in common -/
theorem orbs_apart (hp : PtOk n p) {v w : Nat} (hvw : v < w) (hw : w < n) (hf : firstV p w = true) {x : Int} (h1 : x ∈ orbS p v) (h2 : x ∈ orbS p w) : False := by
  obtain ⟨u, rfl, hu⟩ := (mem_orbS hp (by omega)).1 h1
  have hu2 := (mem_orbS_nat hp hw).1 h2
  exact first_iff.1 hf v hvw (orb_trans hp (by omega) hu (orb_sym hp hw hu2))
theorem orbS_count (hp : PtOk n p) {v : Nat} (hv : v < n) : ∃ k, (mapsP p p).length = (orbS p v).length * k := by
  have hnat : ∀ x ∈ orbS p v, ∃ u : Nat, x = u := fun x hx => by obtain ⟨u, e, _⟩ := (mem_orbS hp hv).1 hx; exact ⟨u, e⟩
  obtain ⟨k, hk⟩ := orb_len hp hv (l := (orbS p v).map Int.toNat) (by
    refine List.pairwise_map.2 (List.Pairwise.imp_of_mem ?_ (orbS_nodup p v))
    intro x y hx hy hne e
    obtain ⟨a, rfl⟩ := hnat x hx
    obtain ⟨b, rfl⟩ := hnat y hy
    exact hne (by omega)) (fun u => by
    rw [← mem_orbS_nat hp hv, List.mem_map]
    constructor
    · rintro ⟨x, hx, rfl⟩
      obtain ⟨a, rfl⟩ := hnat x hx
      simpa using hx
    · intro h; exact ⟨u, h, by simp⟩)
  exact ⟨k, by rw [hk, List.length_map]⟩
/-- together they hold each vertex once -/
theorem orbs_all (hp : PtOk n p) : (orbsU p n).flatten.Perm (idL n) := by
  have hmem : ∀ v ∈ (List.range n).filter fun v => firstV p v, v < n ∧ firstV p v = true := fun v hv => by
    obtain ⟨h1, h2⟩ := List.mem_filter.1 hv; exact ⟨List.mem_range.1 h1, h2⟩
  have hn : (orbsU p n).flatten.Nodup := by
    unfold orbsU
    rw [List.Nodup, List.pairwise_flatten]
    refine ⟨fun l hl => ?_, ?_⟩
    · obtain ⟨v, _, rfl⟩ := List.mem_map.1 hl; exact orbS_nodup p v
    · refine List.pairwise_map.2 (List.Pairwise.imp_of_mem ?_ ((List.pairwise_lt_range (n := n)).filter fun v => firstV p v))
      intro v w hv hw hvw x hx y hy e
      subst e
      exact orbs_apart hp hvw (hmem w hw).1 (hmem w hw).2 hx hy
  refine (perm_of_sub (idL_ord n).2.2 (fun x hx => ?_) ?_).symm
  · obtain ⟨u, hu, rfl⟩ := List.mem_map.1 hx
    have hu := List.mem_range.1 hu
    -- the least vertex of its orbit
    have key : ∀ k u, u ≤ k → u < n → ∃ v, v < n ∧ firstV p v = true ∧ InOrb p v u := by
      intro k
      induction k with
      | zero => intro u hk hun; exact ⟨u, hun, first_iff.2 fun w hw => by omega, orb_self hp hun⟩
      | succ k ih =>
        intro u hk hun
        cases h : firstV p u with
        | true => exact ⟨u, hun, h, orb_self hp hun⟩
        | false =>
          have hd : doneV p u u = true := by rw [done_first, h]; rfl
          obtain ⟨w, h1, h2⟩ := done_iff.1 hd
          obtain ⟨v, g1, g2, g3⟩ := ih w (by omega) (by omega)
          exact ⟨v, g1, g2, orb_trans hp g1 g3 h2⟩
    obtain ⟨v, g1, g2, g3⟩ := key u u (Nat.le_refl _) hu
    refine List.mem_flatten.2 ⟨orbS p v, ?_, (mem_orbS_nat hp g1).2 g3⟩
    exact List.mem_map.2 ⟨v, List.mem_filter.2 ⟨List.mem_range.2 g1, g2⟩, rfl⟩
  · refine nodup_len hn fun x hx => ?_
    obtain ⟨l, hl, hx⟩ := List.mem_flatten.1 hx
    obtain ⟨v, hv, rfl⟩ := List.mem_map.1 hl
    obtain ⟨u, rfl, hu⟩ := (mem_orbS hp (hmem v hv).1).1 hx
    exact List.mem_map.2 ⟨u, List.mem_range.2 (orb_lt hp (hmem v hv).1 hu), rfl⟩
end
end Go.Gr
