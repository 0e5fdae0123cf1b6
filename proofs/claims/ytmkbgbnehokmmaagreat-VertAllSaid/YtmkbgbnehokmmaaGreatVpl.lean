/- vert: plain laws: what lists grow to from single vertices is the lists of all sets that have one; picks of a list. -/
import Derived.Test.YtmkbgbnehokmmaaGreatSrq
namespace Go.Proofs.YtmkbgbnehokmmaaGreat
open Go.Gr
/-- those of a list whose bits stand in a number -/
def pick : List Int → Nat → List Int
  | [], _ => []
  | x :: s, m => (if m % 2 = 1 then [x] else []) ++ pick s (m / 2)
theorem pick_sub : ∀ (s : List Int) (m : Nat), (pick s m).Sublist s
  | [], _ => .slnil
  | x :: s, m => by
    unfold pick
    split
    · exact (pick_sub s _).cons_cons x
    · exact (pick_sub s _).cons x
theorem pick_all : ∀ {s p : List Int}, p.Sublist s → ∃ m, m < 2 ^ s.length ∧ pick s m = p
  | _, _, .slnil => ⟨0, by simp, rfl⟩
  | _, _, .cons x h => by
    obtain ⟨m, hm, hp⟩ := pick_all h
    refine ⟨2 * m, ?_, ?_⟩
    · rw [List.length_cons, Nat.pow_succ]; omega
    · unfold pick
      rw [if_neg (by omega), show 2 * m / 2 = m by omega]; exact hp
  | _, _, .cons_cons x h => by
    obtain ⟨m, hm, hp⟩ := pick_all h
    refine ⟨2 * m + 1, ?_, ?_⟩
    · rw [List.length_cons, Nat.pow_succ]; omega
    · unfold pick
      rw [if_pos (by omega), show (2 * m + 1) / 2 = m by omega, hp]; rfl
theorem pick_inj : ∀ {s : List Int}, s.Nodup → ∀ {m m' : Nat}, m < 2 ^ s.length → m' < 2 ^ s.length → pick s m = pick s m' → m = m'
  | [], _, m, m', h, h', _ => by
    simp only [List.length_nil, Nat.pow_zero] at h h'; omega
  | x :: s, hn, m, m', h, h', e => by
    obtain ⟨hx, hs⟩ := List.nodup_cons.1 hn
    rw [List.length_cons, Nat.pow_succ] at h h'
    have n1 : ∀ k, x ∉ pick s k := fun k hk => hx ((pick_sub s k).subset hk)
    have hi := @pick_inj s hs (m / 2) (m' / 2) (by omega) (by omega)
    unfold pick at e
    by_cases h1 : m % 2 = 1
    · by_cases h2 : m' % 2 = 1
      · rw [if_pos h1, if_pos h2] at e
        have := hi (List.append_cancel_left e); omega
      · rw [if_pos h1, if_neg h2, List.nil_append] at e
        exact absurd (by rw [← e]; simp) (n1 (m' / 2))
    · by_cases h2 : m' % 2 = 1
      · rw [if_neg h1, if_pos h2, List.nil_append] at e
        exact absurd (by rw [e]; simp) (n1 (m / 2))
      · rw [if_neg h1, if_neg h2, List.nil_append, List.nil_append] at e
        have := hi e; omega
theorem pick_snoc : ∀ (s : List Int) (x : Int) (m : Nat), pick (s ++ [x]) m = pick s m ++ (if m / 2 ^ s.length % 2 = 1 then [x] else [])
  | [], x, m => by simp [pick]
  | y :: s, x, m => by
    rw [List.cons_append]
    unfold pick
    rw [pick_snoc s x (m / 2), List.length_cons, Nat.pow_succ', ← Nat.div_div_eq_div_mul, List.append_assoc]
theorem rise_sub {s p : List Int} (hs : s.Pairwise (· < ·)) (hp : p.Pairwise (· < ·)) (h : ∀ x ∈ p, x ∈ s) : p.Sublist s := by
  have : p = s.filter (fun x => decide (x ∈ p)) := rise_eq hp (hs.sublist List.filter_sublist) fun x => by
    rw [List.mem_filter, decide_eq_true_eq]; exact ⟨fun hx => ⟨h x hx, hx⟩, fun hx => hx.2⟩
  rw [this]; exact List.filter_sublist
/-- picks of k of a list, of the numbers below one -/
def picksK (s : List Int) (k M : Nat) : List (List Int) := ((List.range M).map (pick s)).filter fun p => decide (p.length = k)
theorem picksK_step (s : List Int) (k M : Nat) : picksK s k (M + 1) = picksK s k M ++ (if (pick s M).length = k then [pick s M] else []) := by
  unfold picksK
  rw [List.range_succ, List.map_append, List.filter_append]
  by_cases h : (pick s M).length = k
  · simp [h]
  · simp [h]
theorem mem_picksK {s : List Int} {k : Nat} (hs : s.Pairwise (· < ·)) {p : List Int} : p ∈ picksK s k (2 ^ s.length) ↔ p.Pairwise (· < ·) ∧ (∀ x ∈ p, x ∈ s) ∧ p.length = k := by
  unfold picksK
  rw [List.mem_filter, List.mem_map, decide_eq_true_eq]
  constructor
  · rintro ⟨⟨m, _, rfl⟩, h⟩
    exact ⟨hs.sublist (pick_sub s m), fun x hx => (pick_sub s m).subset hx, h⟩
  · rintro ⟨h1, h2, h3⟩
    obtain ⟨m, hm, hp⟩ := pick_all (rise_sub hs h1 h2)
    exact ⟨⟨m, List.mem_range.2 hm, hp⟩, h3⟩
theorem rise_nodup {s : List Int} (h : s.Pairwise (· < ·)) : s.Nodup := h.imp fun h => by omega
theorem picksK_nodup {s : List Int} {k : Nat} (hs : s.Pairwise (· < ·)) : (picksK s k (2 ^ s.length)).Nodup := by
  refine List.Nodup.sublist List.filter_sublist ?_
  unfold List.Nodup
  rw [List.pairwise_map]
  refine List.Pairwise.imp_of_mem ?_ List.pairwise_lt_range
  intro a b ha hb hab e
  have := pick_inj (rise_nodup hs) (List.mem_range.1 ha) (List.mem_range.1 hb) e
  omega
/-- connected sets of k vertices -/
def setsV (G : Gr) (k : Nat) (P : List (List Int)) : Prop := P.Nodup ∧ ∀ p, p ∈ P ↔ (p.Pairwise (· < ·) ∧ (∀ x ∈ p, x ∈ upto G.labels.length) ∧ p.length = k) ∧ (listV G p).isSome = true
theorem sets_of {G : Gr} {k : Nat} {P : List (List Int)} (hp : P.Perm (picksK (upto G.labels.length) k (2 ^ G.labels.length))) : setsV G k (P.filter fun p => (listV G p).isSome) := by
  have hu := upto_rise G.labels.length
  have hn := picksK_nodup (k := k) hu
  have hm := fun p => mem_picksK (k := k) hu (p := p)
  rw [upto_len] at hn hm
  refine ⟨(hp.nodup_iff.2 hn).sublist List.filter_sublist, fun p => ?_⟩
  rw [List.mem_filter, hp.mem_iff, hm]
/-- lists of a level: those of the one ahead, each with what may come behind -/
def growL (G : Gr) (l : List Int) : List (List Int) := (growV G l).map fun x => l ++ [x]
def rowV (G : Gr) : Nat → List (List Int)
  | 0 => (upto G.labels.length).map fun v => [v]
  | k + 1 => (rowV G k).flatMap (growL G)
theorem canon_one (G : Gr) (v : Int) : canonV G [v] = hasV G v := by
  have := canon_snoc G [] v
  rw [List.nil_append] at this
  rw [this]
  have h1 : canonV G [] = true := canonV_yes fun i v h => by simp at h
  rw [h1, Bool.true_and]; rfl
theorem mem_rowV {G : Gr} (hG : G.Ok) : ∀ (k : Nat) {x : List Int}, x ∈ rowV G k ↔ canonV G x = true ∧ x.length = k + 1
  | 0, x => by
    unfold rowV
    rw [List.mem_map]
    constructor
    · rintro ⟨v, hv, rfl⟩
      rw [canon_one]
      have := mem_upto.1 hv
      exact ⟨hasV_yes this.1 this.2, rfl⟩
    · rintro ⟨h1, h2⟩
      obtain ⟨v, rfl⟩ := List.length_eq_one_iff.1 h2
      rw [canon_one] at h1
      refine ⟨v, mem_upto.2 ?_, rfl⟩
      unfold hasV at h1
      simpa using h1
  | k + 1, x => by
    unfold rowV
    rw [List.mem_flatMap]
    constructor
    · rintro ⟨l, hl, hx⟩
      obtain ⟨h1, h2⟩ := (mem_rowV hG k).1 hl
      unfold growL at hx
      obtain ⟨v, hv, rfl⟩ := List.mem_map.1 hx
      have := (grow_mem hG).1 hv
      rw [canon_snoc, this.1, this.2]
      exact ⟨rfl, by rw [List.length_append, h2]; rfl⟩
    · rintro ⟨h1, h2⟩
      have hne : x ≠ [] := fun e => by rw [e] at h2; simp at h2
      have hx := List.dropLast_concat_getLast hne
      generalize x.getLast hne = v at hx
      generalize x.dropLast = l at hx
      subst hx
      rw [canon_snoc, Bool.and_eq_true] at h1
      rw [List.length_append, List.length_singleton] at h2
      refine ⟨l, (mem_rowV hG k).2 ⟨h1.1, by omega⟩, ?_⟩
      unfold growL
      exact List.mem_map.2 ⟨v, (grow_mem hG).2 h1, rfl⟩
theorem grow_nodup (G : Gr) (l : List Int) : (growV G l).Nodup := by
  unfold growV
  split
  · exact (rise_nodup (next_rise G l)).sublist List.filter_sublist
  · exact List.nodup_nil
theorem rowV_nodup {G : Gr} (hG : G.Ok) : ∀ (k : Nat), (rowV G k).Nodup
  | 0 => by
    unfold rowV List.Nodup
    rw [List.pairwise_map]
    refine (upto_rise G.labels.length).imp fun h e => ?_
    have := List.cons.inj e
    omega
  | k + 1 => by
    unfold rowV List.Nodup
    rw [List.pairwise_flatMap]
    refine ⟨fun l hl => ?_, (rowV_nodup hG k).imp fun hne x hx y hy e => ?_⟩
    · unfold growL
      rw [List.pairwise_map]
      refine (grow_nodup G l).imp fun hne e => hne ?_
      have := List.append_cancel_left e
      exact (List.cons.inj this).1
    · unfold growL at hx hy
      obtain ⟨v, _, rfl⟩ := List.mem_map.1 hx
      obtain ⟨u, _, rfl⟩ := List.mem_map.1 hy
      exact hne (List.append_inj_left' e rfl)
theorem list_setOf (G : Gr) (x : List Int) : listV G (setOf x) = listV G x := listV_congr (setOf_spec x).2
theorem linked_has {G : Gr} {l : List Int} (h : linkedV G l = true) {x : Int} (hx : x ∈ l) : hasV G x = true := by
  obtain ⟨i, hi, rfl⟩ := List.mem_iff_getElem.1 hx
  exact (linkAt_iff.1 (linkedV_at h (List.getElem?_eq_getElem hi))).1
theorem rows_perm {G : Gr} (hG : G.Ok) {k : Nat} {P : List (List Int)} (hP : setsV G (k + 1) P) : ((rowV G k).map setOf).Perm P := by
  have hself : ∀ x ∈ rowV G k, listV G (setOf x) = some x := fun x hx => by
    rw [list_setOf]; exact list_self hG ((mem_rowV hG k).1 hx).1
  have hn : ((rowV G k).map setOf).Nodup := by
    unfold List.Nodup
    rw [List.pairwise_map]
    refine List.Pairwise.imp_of_mem ?_ (rowV_nodup hG k)
    intro a b ha hb hne e
    have h1 := hself a ha
    rw [e, hself b hb] at h1
    exact hne (Option.some.inj h1).symm
  refine (List.perm_ext_iff_of_nodup hn hP.1).2 fun p => ?_
  rw [hP.2, List.mem_map]
  constructor
  · rintro ⟨x, hx, rfl⟩
    obtain ⟨h1, h2⟩ := (mem_rowV hG k).1 hx
    have hlk := canon_linked hG h1
    refine ⟨⟨(setOf_spec x).1, fun y hy => ?_, ?_⟩, by rw [hself x hx]; rfl⟩
    · have := linked_has hlk ((setOf_spec x).2 y |>.1 hy)
      unfold hasV at this
      exact mem_upto.2 (by simpa using this)
    · rw [setOf_nodup (linked_nodup hlk)]; exact h2
  · rintro ⟨⟨h1, h2, h3⟩, h4⟩
    obtain ⟨r, hr⟩ := Option.isSome_iff_exists.1 h4
    obtain ⟨g1, g2⟩ := listV_spec hr
    have hsp : setOf p = p := rise_eq (setOf_spec p).1 h1 (setOf_spec p).2
    have hl := g1.length_eq
    rw [hsp] at g1 hl
    exact ⟨r, (mem_rowV hG k).2 ⟨g2, by omega⟩, rise_eq (setOf_spec r).1 h1 fun x => by rw [(setOf_spec r).2, g1.mem_iff]⟩
/-- each set is that of just one list -/
theorem one_hit {G : Gr} (hG : G.Ok) {k : Nat} {P : List (List Int)} (hP : setsV G (k + 1) P) {w : List Int} (hw : w ∈ P) : ((rowV G k).filter fun x => decide (setOf x = w)).length = 1 := by
  have hp := rows_perm hG hP
  have h1 : ((rowV G k).map setOf).count w = 1 := by rw [hp.count_eq, hP.1.count, if_pos hw]
  rw [List.count_eq_length_filter, List.filter_map, List.length_map] at h1
  rw [← h1]
  congr 1
  refine List.filter_congr fun x _ => ?_
  by_cases h : setOf x = w <;> simp [h]
theorem grow_len {G : Gr} (hG : G.Ok) (l : List Int) : (growV G l).length ≤ G.labels.length := by
  have h : ∀ x ∈ growV G l, x ∈ upto G.labels.length := fun x hx => by
    have := fits_has hG ((grow_mem hG).1 hx).2
    unfold hasV at this
    exact mem_upto.2 (by simpa using this)
  have hr : (growV G l).Pairwise (· < ·) := by
    unfold growV
    split
    · exact (next_rise G l).sublist List.filter_sublist
    · exact .nil
  have := (rise_sub (upto_rise _) hr h).length_le
  rw [upto_len] at this; exact this
theorem row_len {G : Gr} (hG : G.Ok) : ∀ k, (rowV G k).length ≤ G.labels.length ^ (k + 1)
  | 0 => by unfold rowV; rw [List.length_map, upto_len, Nat.zero_add, Nat.pow_one]; exact Nat.le_refl _
  | k + 1 => by
    unfold rowV
    rw [List.length_flatMap]
    have hi := row_len hG k
    have : ((rowV G k).map fun l => (growL G l).length).sum ≤ (rowV G k).length * G.labels.length := by
      generalize rowV G k = R
      induction R with
      | nil => simp
      | cons l R ih =>
        rw [List.map_cons, List.sum_cons, List.length_cons]
        have : (growL G l).length ≤ G.labels.length := by unfold growL; rw [List.length_map]; exact grow_len hG l
        rw [Nat.succ_mul]; omega
    rw [Nat.pow_succ]
    exact Nat.le_trans this (Nat.mul_le_mul_right _ hi)
end Go.Proofs.YtmkbgbnehokmmaaGreat
namespace Go.Proofs.YtmkbgbnehokmmaaGreat
open Go.Gr
/-- the first of a list that isn't in another and may come behind it -/
def candV (E : List Edg) (l : List Int) (x : Int) : Bool := !decide (x ∈ l) && nextP E l x
def restV (l z : List Int) : List Int := z.filter fun x => !decide (x ∈ l)
theorem find_cand (E : List Edg) (l z : List Int) : z.find? (candV E l) = (restV l z).find? (nextP E l) := by
  unfold restV
  rw [List.find?_filter]
  congr 1
  funext x
  unfold candV
  rw [Bool.eq_iff_iff]; simp
theorem rest_step {l z : List Int} (hz : z.Pairwise (· < ·)) {i : Nat} (hi : i < (restV l z).length) : restV (l ++ [(restV l z)[i]]) z = (restV l z).eraseIdx i := by
  have hr : (restV l z).Pairwise (· < ·) := hz.sublist List.filter_sublist
  refine rise_eq (hz.sublist List.filter_sublist) (hr.sublist (List.eraseIdx_sublist _ _)) fun x => ?_
  rw [mem_erase_at (rise_nodup hr) hi]
  generalize (restV l z)[i] = y
  unfold restV
  simp only [List.mem_filter, Bool.not_eq_true', decide_eq_false_iff_not, List.mem_append, List.mem_singleton, not_or]
  exact ⟨fun h => ⟨⟨h.1, h.2.1⟩, h.2.2⟩, fun h => ⟨h.1.1, h.1.2, h.2⟩⟩
theorem rest_nil (z : List Int) : restV [] z = z := by
  unfold restV
  rw [List.filter_eq_self]; simp
theorem rlist_none {E : List Edg} {l z : List Int} (h : z.find? (candV E l) = none) {n : Nat} (hn : (restV l z).length = n + 1) : listR E (restV l z).length l (restV l z) = none := by
  rw [find_cand] at h
  rw [hn]
  unfold listR
  have : (restV l z).findIdx? (nextP E l) = none := by
    rw [List.findIdx?_eq_none_iff]
    intro x hx
    have := List.find?_eq_none.1 h x hx
    simpa using this
  rw [this]
theorem rlist_some {E : List Edg} {l z : List Int} (hz : z.Pairwise (· < ·)) {x : Int} (h : z.find? (candV E l) = some x) {n : Nat} (hn : (restV l z).length = n + 1) : (restV (l ++ [x]) z).length = n ∧ listR E (restV l z).length l (restV l z) = listR E (restV (l ++ [x]) z).length (l ++ [x]) (restV (l ++ [x]) z) := by
  rw [find_cand, List.find?_eq_some_iff_getElem] at h
  obtain ⟨h1, i, hi, h2, h3⟩ := h
  have hf : (restV l z).findIdx? (nextP E l) = some i := by
    rw [List.findIdx?_eq_some_iff_getElem]
    exact ⟨hi, by rw [h2]; exact h1, fun j hj => by have := h3 j hj; simpa using this⟩
  have hs := rest_step hz hi
  rw [h2] at hs
  have hl : ((restV l z).eraseIdx i).length = n := by rw [List.length_eraseIdx, if_pos hi]; omega
  rw [hs, hl]
  refine ⟨rfl, ?_⟩
  conv => lhs; rw [hn]; unfold listR
  rw [hf]
  simp only
  rw [List.getElem?_eq_getElem hi, h2]; rfl
theorem listV_of {G : Gr} {s : List Int} (h : (setOf s).any (fun v => !hasV G v) = false) : listV G s = listR G.edges (setOf s).length [] (setOf s) := by
  unfold listV; rw [h]; rfl
theorem listV_out {G : Gr} {s : List Int} (h : (setOf s).any (fun v => !hasV G v) = true) : listV G s = none := by
  unfold listV; rw [h]; rfl
/-- what is beside a list, as the document has it -/
def rnextV (G : Gr) (l : List Int) (k : Nat) : List Int := (upto k).filter fun v => decide (l = []) || candB G l v
where candB (G : Gr) (l : List Int) (v : Int) : Bool := !decide (v ∈ l) && l.any (besP G.edges v)
theorem rnext_eq {G : Gr} (hG : G.Ok) (l : List Int) : rnextV G l G.labels.length = nextV G l := by
  refine rise_eq ((upto_rise _).sublist List.filter_sublist) (next_rise G l) fun x => ?_
  unfold rnextV
  rw [List.mem_filter, mem_upto]
  by_cases hl : l = []
  · unfold nextV
    rw [if_pos hl, mem_upto]
    simp [hl]
  · rw [next_mem hl]
    unfold rnextV.candB
    simp only [hl, decide_false, Bool.false_or, Bool.and_eq_true, Bool.not_eq_true', decide_eq_false_iff_not, any_bes]
    constructor
    · rintro ⟨h1, h2, u, hu, h3⟩
      have := (edge_has hG h3).1
      unfold hasV at this
      exact ⟨⟨u, hu, (mem_nearI hG).2 ⟨by simpa using this, h1.1, h1.2, by rw [turn_sym]; exact h3⟩⟩, h2⟩
    · rintro ⟨⟨u, hu, h3⟩, h2⟩
      obtain ⟨g1, g2, g3, g4⟩ := (mem_nearI hG).1 h3
      exact ⟨⟨g2, g3⟩, h2, u, hu, by rw [turn_sym]; exact g4⟩
end Go.Proofs.YtmkbgbnehokmmaaGreat
