/- Merged: Vpl Lvp Lvs Lvj. -/
import Derived.Test.YtjejpdfldmempaaGreatDoorlgas
import Derived.Test.YtjejpdfldmempaaGreatDoorlgat
import Derived.Test.YtjejpdfldmempaaGreatDoorlgay
import Derived.Test.YtjejpdfldmempaaGreatDoorlgam
section
namespace Go.Proofs.YtjejpdfldmempaaGreatDoor
open Go.Gr
def pick : List Int → Nat → List Int
 | [], _ => []
 | x :: s, m => (if m % 2 = 1 then [x] else []) ++ pick s (m / 2)
theorem pick_sub : ∀ (s : List Int) (m : Nat), (pick s m).Sublist s
 | [], _ => .slnil
 | x :: s, m => by
   unfold pick
   split
   ·exact (pick_sub s _).cons_cons x
   ·exact (pick_sub s _).cons x
theorem pick_all : ∀ {s p : List Int}, p.Sublist s → ∃ m, m < 2 ^ s.length ∧ pick s m = p
 | _, _, .slnil => ⟨0, by simp, rfl⟩
 | _, _, .cons x h => by
   obtain ⟨m, hm, hp⟩ := pick_all h
   refine ⟨2 * m, ?_, ?_⟩
   ·rw [List.length_cons, Nat.pow_succ]; omega
   ·unfold pick
    rw [if_neg (by omega), show 2 * m / 2 = m by omega]; exact hp
 | _, _, .cons_cons x h => by
   obtain ⟨m, hm, hp⟩ := pick_all h
   refine ⟨2 * m + 1, ?_, ?_⟩
   ·rw [List.length_cons, Nat.pow_succ]; omega
   ·unfold pick
    rw [if_pos (by omega), show (2 * m + 1) / 2 = m by omega, hp]; rfl
theorem pick_inj : ∀ {s : List Int}, s.Nodup → ∀ {m m' : Nat}, m < 2 ^ s.length → m' < 2 ^ s.length → pick s m = pick s m' → m = m'
 | [], _, m, m', h, h', _ => by
   simp only [List.length_nil, Nat.pow_zero] at h h'; omega
 | x :: s, hn, m, m', h, h', e => by
   obtain ⟨hx, hs⟩ := List.nodup_cons.1 hn
   rw [List.length_cons, Nat.pow_succ] at h h'
   have n1 : ∀ k, x ∉ pick s k := fun k hk => hx ((pick_sub s k).subset hk)
   have hi := @pick_inj s hs (m / 2) (m' / 2) (by omega) (by omega)
   unfold pick at e
   by_cases h1 : m % 2 = 1
   ·by_cases h2 : m' % 2 = 1
    ·rw [if_pos h1, if_pos h2] at e
     have := hi (List.append_cancel_left e); omega
    ·rw [if_pos h1, if_neg h2, List.nil_append] at e
     exact absurd (by rw [← e]; simp) (n1 (m' / 2))
   ·by_cases h2 : m' % 2 = 1
    ·rw [if_neg h1, if_pos h2, List.nil_append] at e
     exact absurd (by rw [e]; simp) (n1 (m / 2))
    ·rw [if_neg h1, if_neg h2, List.nil_append, List.nil_append] at e
     have := hi e; omega
theorem pick_snoc : ∀ (s : List Int) (x : Int) (m : Nat), pick (s ++ [x]) m = pick s m ++ (if m / 2 ^ s.length % 2 = 1 then [x] else [])
 | [], x, m => by simp [pick]
 | y :: s, x, m => by
   rw [List.cons_append]
   unfold pick
   rw [pick_snoc s x (m / 2), List.length_cons, Nat.pow_succ', ← Nat.div_div_eq_div_mul, List.append_assoc]
theorem rise_sub {s p : List Int} (hs : s.Pairwise (· < ·)) (hp : p.Pairwise (· < ·)) (h : ∀ x ∈ p, x ∈ s) : p.Sublist s := by
 have : p = s.filter (fun x => decide (x ∈ p)) := rise_eq hp (hs.sublist List.filter_sublist) fun x => by
  rw [List.mem_filter, decide_eq_true_eq]; exact ⟨fun hx => ⟨h x hx, hx⟩, fun hx => hx.2⟩
 rw [this]; exact List.filter_sublist
def picksK (s : List Int) (k M : Nat) : List (List Int) := ((List.range M).map (pick s)).filter fun p => decide (p.length = k)
theorem picksK_step (s : List Int) (k M : Nat) : picksK s k (M + 1) = picksK s k M ++ (if (pick s M).length = k then [pick s M] else []) := by
 unfold picksK
 rw [List.range_succ, List.map_append, List.filter_append]
 by_cases h : (pick s M).length = k
 ·simp [h]
 ·simp [h]
theorem mem_picksK {s : List Int} {k : Nat} (hs : s.Pairwise (· < ·)) {p : List Int} : p ∈ picksK s k (2 ^ s.length) ↔ p.Pairwise (· < ·) ∧ (∀ x ∈ p, x ∈ s) ∧ p.length = k := by
 unfold picksK
 rw [List.mem_filter, List.mem_map, decide_eq_true_eq]
 constructor
 ·rintro ⟨⟨m, _, rfl⟩, h⟩
  exact ⟨hs.sublist (pick_sub s m), fun x hx => (pick_sub s m).subset hx, h⟩
 ·rintro ⟨h1, h2, h3⟩
  obtain ⟨m, hm, hp⟩ := pick_all (rise_sub hs h1 h2)
  exact ⟨⟨m, List.mem_range.2 hm, hp⟩, h3⟩
theorem rise_nodup {s : List Int} (h : s.Pairwise (· < ·)) : s.Nodup := h.imp fun h => by omega
theorem picksK_nodup {s : List Int} {k : Nat} (hs : s.Pairwise (· < ·)) : (picksK s k (2 ^ s.length)).Nodup := by
 refine List.Nodup.sublist List.filter_sublist ?_
 unfold List.Nodup
 rw [List.pairwise_map]
 refine List.Pairwise.imp_of_mem ?_ List.pairwise_lt_range
 intro a b ha hb hab e
 have := pick_inj (rise_nodup hs) (List.mem_range.1 ha) (List.mem_range.1 hb) e
 omega
def setsV (G : Gr) (k : Nat) (P : List (List Int)) : Prop := P.Nodup ∧ ∀ p, p ∈ P ↔ (p.Pairwise (· < ·) ∧ (∀ x ∈ p, x ∈ upto G.labels.length) ∧ p.length = k) ∧ (listV G p).isSome = true
theorem sets_of {G : Gr} {k : Nat} {P : List (List Int)} (hp : P.Perm (picksK (upto G.labels.length) k (2 ^ G.labels.length))) : setsV G k (P.filter fun p => (listV G p).isSome) := by
 have hu := upto_rise G.labels.length
 have hn := picksK_nodup (k := k) hu
 have hm := fun p => mem_picksK (k := k) hu (p := p)
 rw [upto_len] at hn hm
 refine ⟨(hp.nodup_iff.2 hn).sublist List.filter_sublist, fun p => ?_⟩
 rw [List.mem_filter, hp.mem_iff, hm]
def growL (G : Gr) (l : List Int) : List (List Int) := (growV G l).map fun x => l ++ [x]
def rowV (G : Gr) : Nat → List (List Int)
 | 0 => (upto G.labels.length).map fun v => [v]
 | k + 1 => (rowV G k).flatMap (growL G)
theorem canon_one (G : Gr) (v : Int) : canonV G [v] = hasV G v := by
 have := canon_snoc G [] v
 rw [List.nil_append] at this
 rw [this]
 have h1 : canonV G [] = true := canonV_yes fun i v h => by simp at h
 rw [h1, Bool.true_and]; rfl
theorem mem_rowV {G : Gr} (hG : G.Ok) : ∀ (k : Nat) {x : List Int}, x ∈ rowV G k ↔ canonV G x = true ∧ x.length = k + 1
 | 0, x => by
   unfold rowV
   rw [List.mem_map]
   constructor
   ·rintro ⟨v, hv, rfl⟩
    rw [canon_one]
    have := mem_upto.1 hv
    exact ⟨hasV_yes this.1 this.2, rfl⟩
   ·rintro ⟨h1, h2⟩
    obtain ⟨v, rfl⟩ := List.length_eq_one_iff.1 h2
    rw [canon_one] at h1
    refine ⟨v, mem_upto.2 ?_, rfl⟩
    unfold hasV at h1
    simpa using h1
 | k + 1, x => by
   unfold rowV
   rw [List.mem_flatMap]
   constructor
   ·rintro ⟨l, hl, hx⟩
    obtain ⟨h1, h2⟩ := (mem_rowV hG k).1 hl
    unfold growL at hx
    obtain ⟨v, hv, rfl⟩ := List.mem_map.1 hx
    have := (grow_mem hG).1 hv
    rw [canon_snoc, this.1, this.2]
    exact ⟨rfl, by rw [List.length_append, h2]; rfl⟩
   ·rintro ⟨h1, h2⟩
    have hne : x ≠ [] := fun e => by rw [e] at h2; simp at h2
    have hx := List.dropLast_concat_getLast hne
    generalize x.getLast hne = v at hx
    generalize x.dropLast = l at hx
    subst hx
    rw [canon_snoc, Bool.and_eq_true] at h1
    rw [List.length_append, List.length_singleton] at h2
    refine ⟨l, (mem_rowV hG k).2 ⟨h1.1, by omega⟩, ?_⟩
    unfold growL
    exact List.mem_map.2 ⟨v, (grow_mem hG).2 h1, rfl⟩
theorem grow_nodup (G : Gr) (l : List Int) : (growV G l).Nodup := by
 unfold growV
 split
 ·exact (rise_nodup (next_rise G l)).sublist List.filter_sublist
 ·exact List.nodup_nil
theorem rowV_nodup {G : Gr} (hG : G.Ok) : ∀ (k : Nat), (rowV G k).Nodup
 | 0 => by
   unfold rowV List.Nodup
   rw [List.pairwise_map]
   refine (upto_rise G.labels.length).imp fun h e => ?_
   have := List.cons.inj e
   omega
 | k + 1 => by
   unfold rowV List.Nodup
   rw [List.pairwise_flatMap]
   refine ⟨fun l hl => ?_, (rowV_nodup hG k).imp fun hne x hx y hy e => ?_⟩
   ·unfold growL
    rw [List.pairwise_map]
    refine (grow_nodup G l).imp fun hne e => hne ?_
    have := List.append_cancel_left e
    exact (List.cons.inj this).1
   ·unfold growL at hx hy
    obtain ⟨v, _, rfl⟩ := List.mem_map.1 hx
    obtain ⟨u, _, rfl⟩ := List.mem_map.1 hy
    exact hne (List.append_inj_left' e rfl)
theorem list_setOf (G : Gr) (x : List Int) : listV G (setOf x) = listV G x := listV_congr (setOf_spec x).2
theorem linked_has {G : Gr} {l : List Int} (h : linkedV G l = true) {x : Int} (hx : x ∈ l) : hasV G x = true := by
 obtain ⟨i, hi, rfl⟩ := List.mem_iff_getElem.1 hx
 exact (linkAt_iff.1 (linkedV_at h (List.getElem?_eq_getElem hi))).1
theorem rows_perm {G : Gr} (hG : G.Ok) {k : Nat} {P : List (List Int)} (hP : setsV G (k + 1) P) : ((rowV G k).map setOf).Perm P := by
 have hself : ∀ x ∈ rowV G k, listV G (setOf x) = some x := fun x hx => by
  rw [list_setOf]; exact list_self hG ((mem_rowV hG k).1 hx).1
 have hn : ((rowV G k).map setOf).Nodup := by
  unfold List.Nodup
  rw [List.pairwise_map]
  refine List.Pairwise.imp_of_mem ?_ (rowV_nodup hG k)
  intro a b ha hb hne e
  have h1 := hself a ha
  rw [e, hself b hb] at h1
  exact hne (Option.some.inj h1).symm
 refine (List.perm_ext_iff_of_nodup hn hP.1).2 fun p => ?_
 rw [hP.2, List.mem_map]
 constructor
 ·rintro ⟨x, hx, rfl⟩
  obtain ⟨h1, h2⟩ := (mem_rowV hG k).1 hx
  have hlk := canon_linked hG h1
  refine ⟨⟨(setOf_spec x).1, fun y hy => ?_, ?_⟩, by rw [hself x hx]; rfl⟩
  ·have := linked_has hlk ((setOf_spec x).2 y |>.1 hy)
   unfold hasV at this
   exact mem_upto.2 (by simpa using this)
  ·rw [setOf_nodup (linked_nodup hlk)]; exact h2
 ·rintro ⟨⟨h1, h2, h3⟩, h4⟩
  obtain ⟨r, hr⟩ := Option.isSome_iff_exists.1 h4
  obtain ⟨g1, g2⟩ := listV_spec hr
  have hsp : setOf p = p := rise_eq (setOf_spec p).1 h1 (setOf_spec p).2
  have hl := g1.length_eq
  rw [hsp] at g1 hl
  exact ⟨r, (mem_rowV hG k).2 ⟨g2, by omega⟩, rise_eq (setOf_spec r).1 h1 fun x => by rw [(setOf_spec r).2, g1.mem_iff]⟩
end Go.Proofs.YtjejpdfldmempaaGreatDoor
namespace Go.Proofs.YtjejpdfldmempaaGreatDoor
open Go.Gr
def candV (E : List Edg) (l : List Int) (x : Int) : Bool := !decide (x ∈ l) && nextP E l x
def restV (l z : List Int) : List Int := z.filter fun x => !decide (x ∈ l)
theorem find_cand (E : List Edg) (l z : List Int) : z.find? (candV E l) = (restV l z).find? (nextP E l) := by
 unfold restV
 rw [List.find?_filter]
 congr 1
 funext x
 unfold candV
 rw [Bool.eq_iff_iff]; simp
theorem rest_step {l z : List Int} (hz : z.Pairwise (· < ·)) {i : Nat} (hi : i < (restV l z).length) : restV (l ++ [(restV l z)[i]]) z = (restV l z).eraseIdx i := by
 have hr : (restV l z).Pairwise (· < ·) := hz.sublist List.filter_sublist
 refine rise_eq (hz.sublist List.filter_sublist) (hr.sublist (List.eraseIdx_sublist _ _)) fun x => ?_
 rw [mem_erase_at (rise_nodup hr) hi]
 generalize (restV l z)[i] = y
 unfold restV
 simp only [List.mem_filter, Bool.not_eq_true', decide_eq_false_iff_not, List.mem_append, List.mem_singleton, not_or]
 exact ⟨fun h => ⟨⟨h.1, h.2.1⟩, h.2.2⟩, fun h => ⟨h.1.1, h.1.2, h.2⟩⟩
theorem rest_nil (z : List Int) : restV [] z = z := by
 unfold restV
 rw [List.filter_eq_self]; simp
theorem rlist_none {E : List Edg} {l z : List Int} (h : z.find? (candV E l) = none) {n : Nat} (hn : (restV l z).length = n + 1) : listR E (restV l z).length l (restV l z) = none := by
 rw [find_cand] at h
 rw [hn]
 unfold listR
 have : (restV l z).findIdx? (nextP E l) = none := by
  rw [List.findIdx?_eq_none_iff]
  intro x hx
  have := List.find?_eq_none.1 h x hx
  simpa using this
 rw [this]
theorem rlist_some {E : List Edg} {l z : List Int} (hz : z.Pairwise (· < ·)) {x : Int} (h : z.find? (candV E l) = some x) {n : Nat} (hn : (restV l z).length = n + 1) : (restV (l ++ [x]) z).length = n ∧ listR E (restV l z).length l (restV l z) = listR E (restV (l ++ [x]) z).length (l ++ [x]) (restV (l ++ [x]) z) := by
 rw [find_cand, List.find?_eq_some_iff_getElem] at h
 obtain ⟨h1, i, hi, h2, h3⟩ := h
 have hf : (restV l z).findIdx? (nextP E l) = some i := by
  rw [List.findIdx?_eq_some_iff_getElem]
  exact ⟨hi, by rw [h2]; exact h1, fun j hj => by have := h3 j hj; simpa using this⟩
 have hs := rest_step hz hi
 rw [h2] at hs
 have hl : ((restV l z).eraseIdx i).length = n := by rw [List.length_eraseIdx, if_pos hi]; omega
 rw [hs, hl]
 refine ⟨rfl, ?_⟩
 conv => lhs; rw [hn]; unfold listR
 rw [hf]
 simp only
 rw [List.getElem?_eq_getElem hi, h2]; rfl
theorem listV_of {G : Gr} {s : List Int} (h : (setOf s).any (fun v => !hasV G v) = false) : listV G s = listR G.edges (setOf s).length [] (setOf s) := by
 unfold listV; rw [h]; rfl
theorem listV_out {G : Gr} {s : List Int} (h : (setOf s).any (fun v => !hasV G v) = true) : listV G s = none := by
 unfold listV; rw [h]; rfl
def rnextV (G : Gr) (l : List Int) (k : Nat) : List Int := (upto k).filter fun v => decide (l = []) || candB G l v
where candB (G : Gr) (l : List Int) (v : Int) : Bool := !decide (v ∈ l) && l.any (besP G.edges v)
theorem rnext_eq {G : Gr} (hG : G.Ok) (l : List Int) : rnextV G l G.labels.length = nextV G l := by
 refine rise_eq ((upto_rise _).sublist List.filter_sublist) (next_rise G l) fun x => ?_
 unfold rnextV
 rw [List.mem_filter, mem_upto]
 by_cases hl : l = []
 ·unfold nextV
  rw [if_pos hl, mem_upto]
  simp [hl]
 ·rw [next_mem hl]
  unfold rnextV.candB
  simp only [hl, decide_false, Bool.false_or, Bool.and_eq_true, Bool.not_eq_true', decide_eq_false_iff_not, any_bes]
  constructor
  ·rintro ⟨h1, h2, u, hu, h3⟩
   have := (edge_has hG h3).1
   unfold hasV at this
   exact ⟨⟨u, hu, (mem_nearI hG).2 ⟨by simpa using this, h1.1, h1.2, by rw [turn_sym]; exact h3⟩⟩, h2⟩
  ·rintro ⟨⟨u, hu, h3⟩, h2⟩
   obtain ⟨g1, g2, g3, g4⟩ := (mem_nearI hG).1 h3
   exact ⟨⟨g2, g3⟩, h2, u, hu, by rw [turn_sym]; exact g4⟩
end Go.Proofs.YtjejpdfldmempaaGreatDoor
end
section
namespace Go.Proofs.YtjejpdfldmempaaGreatDoor
open Go.Gr
def befL : List Int → List Int → Bool
 | [], [] => false
 | [], _ :: _ => true
 | _ :: _, [] => false
 | x :: a, y :: b => decide (x < y) || (decide (x = y) && befL a b)
theorem bef_snoc : ∀ {a b : List Int}, a.length = b.length → befL a b = true → ∀ (x y : List Int), befL (a ++ x) (b ++ y) = true
 | [], [], _, h, _, _ => by simp [befL] at h
 | [], _ :: _, e, _, _, _ => by simp at e
 | _ :: _, [], e, _, _, _ => by simp at e
 | p :: a, q :: b, e, h, x, y => by
   simp only [befL, List.cons_append, Bool.or_eq_true, Bool.and_eq_true, decide_eq_true_eq] at h ⊢
   rcases h with h | ⟨h1, h2⟩
   ·exact .inl h
   ·exact .inr ⟨h1, bef_snoc (by simpa using e) h2 x y⟩
theorem bef_same : ∀ (a : List Int) {x y : Int}, x < y → befL (a ++ [x]) (a ++ [y]) = true
 | [], x, y, h => by simp [befL, h]
 | p :: a, x, y, h => by
   simp only [befL, List.cons_append, Bool.or_eq_true, Bool.and_eq_true, decide_eq_true_eq]
   exact .inr ⟨trivial, bef_same a h⟩
def growP (G : Gr) (ps : List Int → Bool) (l : List Int) : List (List Int) := (growL G l).filter ps
def rowP (G : Gr) (ps : List Int → Bool) : Nat → List (List Int)
 | 0 => (rowV G 0).filter ps
 | k + 1 => (rowP G ps k).flatMap (growP G ps)
def allP (ps : List Int → Bool) (l : List Int) : Bool := (List.range l.length).all fun n => ps (l.take (n + 1))
theorem allP_snoc (ps : List Int → Bool) (l : List Int) (v : Int) : allP ps (l ++ [v]) = (allP ps l && ps (l ++ [v])) := by
 unfold allP
 rw [List.length_append, List.length_singleton, List.range_succ, List.all_append, List.all_cons, List.all_nil, Bool.and_true]
 congr 1
 ·rw [Bool.eq_iff_iff, List.all_eq_true, List.all_eq_true]
  have h : ∀ n ∈ List.range l.length, (l ++ [v]).take (n + 1) = l.take (n + 1) := fun n hn => List.take_append_of_le_length (by have := List.mem_range.1 hn; omega)
  exact ⟨fun g n hn => by rw [← h n hn]; exact g n hn, fun g n hn => by rw [h n hn]; exact g n hn⟩
 ·rw [List.take_of_length_le (by simp)]
theorem mem_rowP {G : Gr} (hG : G.Ok) {ps : List Int → Bool} : ∀ (k : Nat) {x : List Int}, x ∈ rowP G ps k ↔ canonV G x = true ∧ x.length = k + 1 ∧ allP ps x = true
 | 0, x => by
   unfold rowP
   rw [List.mem_filter, mem_rowV hG]
   constructor
   ·rintro ⟨⟨h1, h2⟩, h3⟩
    obtain ⟨v, rfl⟩ := List.length_eq_one_iff.1 h2
    exact ⟨h1, h2, by simpa [allP] using h3⟩
   ·rintro ⟨h1, h2, h3⟩
    obtain ⟨v, rfl⟩ := List.length_eq_one_iff.1 h2
    exact ⟨⟨h1, h2⟩, by simpa [allP] using h3⟩
 | k + 1, x => by
   unfold rowP
   rw [List.mem_flatMap]
   unfold growP growL
   constructor
   ·rintro ⟨l, hl, hx⟩
    obtain ⟨h1, h2, h3⟩ := (mem_rowP hG k).1 hl
    obtain ⟨hx, hp⟩ := List.mem_filter.1 hx
    obtain ⟨v, hv, rfl⟩ := List.mem_map.1 hx
    have := (grow_mem hG).1 hv
    rw [canon_snoc, this.1, this.2, allP_snoc, h3, hp]
    exact ⟨rfl, by rw [List.length_append, h2]; rfl, rfl⟩
   ·rintro ⟨h1, h2, h3⟩
    have hne : x ≠ [] := fun e => by rw [e] at h2; simp at h2
    have hx := List.dropLast_concat_getLast hne
    generalize x.getLast hne = v at hx
    generalize x.dropLast = l at hx
    subst hx
    rw [canon_snoc, Bool.and_eq_true] at h1
    rw [allP_snoc, Bool.and_eq_true] at h3
    rw [List.length_append, List.length_singleton] at h2
    exact ⟨l, (mem_rowP hG k).2 ⟨h1.1, by omega, h3.1⟩, List.mem_filter.2 ⟨List.mem_map.2 ⟨v, (grow_mem hG).2 h1, rfl⟩, h3.2⟩⟩
theorem grow_rise (G : Gr) (l : List Int) : (growV G l).Pairwise (· < ·) := by
 unfold growV
 split
 ·exact (next_rise G l).sublist List.filter_sublist
 ·exact .nil
theorem growP_rise (G : Gr) (ps : List Int → Bool) (l : List Int) : (growP G ps l).Pairwise fun a b => befL a b = true := by
 unfold growP growL
 refine List.Pairwise.sublist List.filter_sublist ?_
 rw [List.pairwise_map]
 exact (grow_rise G l).imp fun h => bef_same l h
theorem rowP_rise {G : Gr} (hG : G.Ok) (ps : List Int → Bool) : ∀ k, (rowP G ps k).Pairwise fun a b => befL a b = true
 | 0 => by
   unfold rowP rowV
   refine List.Pairwise.sublist List.filter_sublist ?_
   rw [List.pairwise_map]
   exact (upto_rise _).imp fun h => by simp [befL, h]
 | k + 1 => by
   unfold rowP
   rw [List.pairwise_flatMap]
   refine ⟨fun l _ => growP_rise G ps l, ?_⟩
   refine List.Pairwise.imp_of_mem ?_ (rowP_rise hG ps k)
   intro a b ha hb hab x hx y hy
   unfold growP growL at hx hy
   obtain ⟨v, _, rfl⟩ := List.mem_map.1 (List.mem_filter.1 hx).1
   obtain ⟨u, _, rfl⟩ := List.mem_map.1 (List.mem_filter.1 hy).1
   exact bef_snoc (by rw [((mem_rowP hG k).1 ha).2.1, ((mem_rowP hG k).1 hb).2.1]) hab _ _
theorem bef_ne {a b : List Int} (h : befL a b = true) : a ≠ b := by
 rintro rfl
 induction a with
 | nil => simp [befL] at h
 | cons x a ih => simp [befL] at h; exact ih h
theorem rowP_sets {G : Gr} (hG : G.Ok) {ps : List Int → Bool} {k : Nat} {a b : List Int} (ha : a ∈ rowP G ps k) (hb : b ∈ rowP G ps k) (e : setOf a = setOf b) : a = b := by
 have h1 := list_self hG ((mem_rowP hG k).1 ha).1
 have h2 := list_self hG ((mem_rowP hG k).1 hb).1
 rw [← list_setOf] at h1 h2
 rw [e, h2] at h1
 exact (Option.some.inj h1).symm
theorem nd_len {α : Type} : ∀ {l m : List α}, l.Nodup → (∀ x ∈ l, x ∈ m) → l.length ≤ m.length
 | [], _, _, _ => Nat.zero_le _
 | x :: l, m, hn, hs => by
   obtain ⟨a, b, rfl⟩ := List.append_of_mem (hs x List.mem_cons_self)
   rw [List.nodup_cons] at hn
   have := nd_len (l := l) (m := a ++ b) hn.2 fun y hy => by
    have h := hs y (List.mem_cons_of_mem _ hy)
    rw [List.mem_append, List.mem_cons] at h
    rw [List.mem_append]
    rcases h with h | h | h
    ·exact .inl h
    ·exact absurd (h ▸ hy) hn.1
    ·exact .inr h
   rw [List.length_append] at this
   rw [List.length_cons, List.length_append, List.length_cons]
   omega
theorem rowP_len {G : Gr} (hG : G.Ok) (ps : List Int → Bool) (k : Nat) : (rowP G ps k).length ≤ 2 ^ G.labels.length := by
 have hs : ((rowP G ps k).map setOf).Nodup := by
  unfold List.Nodup
  rw [List.pairwise_map]
  refine List.Pairwise.imp_of_mem ?_ (rowP_rise hG ps k)
  exact fun ha hb hab e => bef_ne hab (rowP_sets hG ha hb e)
 have hl := nd_len hs (m := (List.range (2 ^ G.labels.length)).map (pick (upto G.labels.length))) fun p hp => by
  obtain ⟨x, hx, rfl⟩ := List.mem_map.1 hp
  have hc := ((mem_rowP hG k).1 hx).1
  have hlk := canon_linked hG hc
  have hsub := rise_sub (upto_rise G.labels.length) (setOf_spec x).1 fun y hy => by
   have := linked_has hlk ((setOf_spec x).2 y |>.1 hy)
   unfold hasV at this
   exact mem_upto.2 (by simpa using this)
  obtain ⟨m, hm, he⟩ := pick_all hsub
  rw [upto_len] at hm
  exact List.mem_map.2 ⟨m, List.mem_range.2 hm, he⟩
 simpa using hl
theorem rowP_empty {G : Gr} {ps : List Int → Bool} {k : Nat} (h : rowP G ps k = []) : ∀ m, k ≤ m → rowP G ps m = [] := by
 intro m hm
 induction m with
 | zero => rw [show k = 0 by omega] at h; exact h
 | succ m ih =>
   rcases Nat.lt_or_ge m k with hk | hk
   ·rw [show m + 1 = k by omega]; exact h
   ·unfold rowP; rw [ih hk]; rfl
def rowsP (G : Gr) (ps : List Int → Bool) : Nat → List (List (List Int))
 | 0 => []
 | d + 1 => if rowP G ps d = [] then rowsP G ps d else rowsP G ps d ++ [rowP G ps d]
theorem rowsP_full {G : Gr} {ps : List Int → Bool} : ∀ {d : Nat}, (∀ k, k < d → rowP G ps k ≠ []) → rowsP G ps d = (List.range d).map (rowP G ps)
 | 0, _ => rfl
 | d + 1, h => by
   unfold rowsP
   rw [if_neg (h d (by omega)), rowsP_full fun k hk => h k (by omega), List.range_succ, List.map_append]; rfl
theorem rowsP_stop {G : Gr} {ps : List Int → Bool} {k : Nat} (h : rowP G ps k = []) : ∀ {d : Nat}, k ≤ d → rowsP G ps d = rowsP G ps k := by
 intro d hd
 induction d with
 | zero => rw [show k = 0 by omega]
 | succ d ih =>
   rcases Nat.lt_or_ge d k with hk | hk
   ·rw [show d + 1 = k by omega]
   ·conv => lhs; unfold rowsP
    rw [if_pos (rowP_empty h d hk), ih hk]
end Go.Proofs.YtjejpdfldmempaaGreatDoor
end
section
namespace Go.Proofs.YtjejpdfldmempaaGreatDoor
open Go.Gr
theorem bef_irr : ∀ (a : List Int), ¬ befL a a = true
 | [], h => by simp [befL] at h
 | _ :: a, h => by simp [befL] at h; exact bef_irr a h
theorem bef_tr : ∀ {a b c : List Int}, befL a b = true → befL b c = true → befL a c = true
 | [], [], _, h, _ => by simp [befL] at h
 | _ :: _, [], _, h, _ => by simp [befL] at h
 | _, _ :: _, [], _, h => by simp [befL] at h
 | [], _ :: _, _ :: _, _, _ => rfl
 | x :: a, y :: b, z :: c, h1, h2 => by
   simp only [befL, Bool.or_eq_true, Bool.and_eq_true, decide_eq_true_eq] at h1 h2 ⊢
   rcases h1 with h1 | ⟨h1, g1⟩ <;> rcases h2 with h2 | ⟨h2, g2⟩
   ·exact .inl (by omega)
   ·exact .inl (by omega)
   ·exact .inl (by omega)
   ·exact .inr ⟨by omega, bef_tr g1 g2⟩
theorem bef_tot : ∀ (a b : List Int), befL a b = true ∨ a = b ∨ befL b a = true
 | [], [] => .inr (.inl rfl)
 | [], _ :: _ => .inl rfl
 | _ :: _, [] => .inr (.inr rfl)
 | x :: a, y :: b => by
   simp only [befL, Bool.or_eq_true, Bool.and_eq_true, decide_eq_true_eq, List.cons.injEq]
   rcases Int.lt_trichotomy x y with h | h | h
   ·exact .inl (.inl h)
   ·rcases bef_tot a b with g | g | g
    ·exact .inl (.inr ⟨h, g⟩)
    ·exact .inr (.inl ⟨h, g⟩)
    ·exact .inr (.inr (.inr ⟨h.symm, g⟩))
   ·exact .inr (.inr (.inl h))
theorem rise_uniq : ∀ {P Q : List (List Int)}, P.Pairwise (fun a b => befL a b = true) → Q.Pairwise (fun a b => befL a b = true) → (∀ x, x ∈ P ↔ x ∈ Q) → P = Q
 | [], [], _, _, _ => rfl
 | [], y :: Q, _, _, h => absurd ((h y).2 List.mem_cons_self) List.not_mem_nil
 | x :: P, [], _, _, h => absurd ((h x).1 List.mem_cons_self) List.not_mem_nil
 | x :: P, y :: Q, hP, hQ, h => by
   rw [List.pairwise_cons] at hP hQ
   have hxy : x = y := by
    rcases List.mem_cons.1 ((h x).1 List.mem_cons_self) with e | e
    ·exact e
    ·rcases List.mem_cons.1 ((h y).2 List.mem_cons_self) with f | f
     ·exact f.symm
     ·exact absurd (bef_tr (hP.1 y f) (hQ.1 x e)) (bef_irr x)
   subst hxy
   rw [rise_uniq hP.2 hQ.2 fun z => ?_]
   constructor
   ·intro hz
    rcases List.mem_cons.1 ((h z).1 (List.mem_cons_of_mem _ hz)) with e | e
    ·exact absurd (e ▸ hP.1 z hz) (bef_irr _)
    ·exact e
   ·intro hz
    rcases List.mem_cons.1 ((h z).2 (List.mem_cons_of_mem _ hz)) with e | e
    ·exact absurd (e ▸ hQ.1 z hz) (bef_irr _)
    ·exact e
theorem ins_rise {P : List (List Int)} (hP : P.Pairwise fun a b => befL a b = true) {l : List Int} (hl : l ∉ P) {k : Nat} (hk : k ≤ P.length) (h1 : ∀ x ∈ P.drop k, befL l x = true) (h2 : ∀ y, k ≠ 0 → P[k - 1]? = some y → befL l y = false) : (P.take k ++ l :: P.drop k).Pairwise fun a b => befL a b = true := by
 have hs := hP
 rw [← List.take_append_drop k P, List.pairwise_append] at hs
 rw [List.pairwise_append, List.pairwise_cons]
 have key : ∀ x ∈ P.take k, befL x l = true := by
  intro x hx
  have h0 : k ≠ 0 := fun e => by rw [e] at hx; simp at hx
  obtain ⟨i, hi, rfl⟩ := List.mem_iff_getElem.1 hx
  rw [List.length_take] at hi
  have hy := List.getElem?_eq_getElem (show k - 1 < P.length by omega)
  have hb := h2 _ h0 hy
  have hbl : befL (P[k - 1]'(by omega)) l = true := by
   rcases bef_tot l (P[k - 1]'(by omega)) with g | g | g
   ·rw [hb] at g; cases g
   ·exact absurd (g ▸ List.getElem_mem (show k - 1 < P.length by omega)) hl
   ·exact g
  rw [List.getElem_take]
  rcases Nat.lt_or_ge i (k - 1) with g | g
  ·exact bef_tr (List.pairwise_iff_getElem.1 hP i (k - 1) (by omega) (by omega) g) hbl
  ·have : i = k - 1 := by omega
   subst this; exact hbl
 refine ⟨hs.1, ⟨h1, hs.2.1⟩, fun x hx y hy => ?_⟩
 rcases List.mem_cons.1 hy with e | e
 ·subst e; exact key x hx
 ·exact hs.2.2 x hx y e
theorem mem_ins {P : List (List Int)} {l x : List Int} (k : Nat) : x ∈ P.take k ++ l :: P.drop k ↔ x = l ∨ x ∈ P := by
 have h : x ∈ P ↔ x ∈ P.take k ∨ x ∈ P.drop k := by
  conv => lhs; rw [← List.take_append_drop k P]
  exact List.mem_append
 rw [List.mem_append, List.mem_cons, h]
 constructor <;> rintro (h | h | h) <;> simp [h]
def RefRow (G : Gr) (ps : List Int → Bool) (S : List (List Int)) (P : List (List Int)) : Prop := P.Pairwise (fun a b => befL a b = true) ∧ ∀ x, x ∈ P ↔ ∃ s ∈ S, listV G s = some x ∧ allP ps x = true
theorem refRow_eq {G : Gr} (hG : G.Ok) {ps : List Int → Bool} {k : Nat} {S P : List (List Int)} (hS : setsV G (k + 1) S) (hP : RefRow G ps S P) : P = rowP G ps k := by
 refine rise_uniq hP.1 (rowP_rise hG ps k) fun x => ?_
 rw [hP.2, mem_rowP hG]
 constructor
 ·rintro ⟨s, hs, hl, ha⟩
  obtain ⟨⟨h1, h2, h3⟩, h4⟩ := (hS.2 s).1 hs
  obtain ⟨g1, g2⟩ := listV_spec hl
  have hsp : setOf s = s := rise_eq (setOf_spec s).1 h1 (setOf_spec s).2
  rw [hsp] at g1
  exact ⟨g2, by rw [g1.length_eq, h3], ha⟩
 ·rintro ⟨h1, h2, h3⟩
  have hr := (mem_rowV hG k).2 ⟨h1, h2⟩
  have hm := (rows_perm hG hS).mem_iff.1 (List.mem_map_of_mem (f := setOf) hr)
  exact ⟨setOf x, hm, by rw [list_setOf]; exact list_self hG h1, h3⟩
theorem refRow_nil (G : Gr) (ps : List Int → Bool) : RefRow G ps [] [] := ⟨.nil, fun x => by simp⟩
theorem refRow_no {G : Gr} {ps : List Int → Bool} {S P : List (List Int)} (h : RefRow G ps S P) {s : List Int} (hs : ∀ x, listV G s = some x → allP ps x = false) : RefRow G ps (S ++ [s]) P := by
 refine ⟨h.1, fun x => ?_⟩
 rw [h.2]
 constructor
 ·rintro ⟨t, ht, g⟩; exact ⟨t, List.mem_append_left _ ht, g⟩
 ·rintro ⟨t, ht, g1, g2⟩
  rcases List.mem_append.1 ht with ht | ht
  ·exact ⟨t, ht, g1, g2⟩
  ·rw [List.mem_singleton] at ht
   subst ht
   rw [hs x g1] at g2; cases g2
theorem refRow_yes {G : Gr} {ps : List Int → Bool} {S P : List (List Int)} (h : RefRow G ps S P) {s l : List Int} (hl : listV G s = some l) (hp : allP ps l = true) (hn : ∀ t ∈ S, listV G t ≠ some l) {k : Nat} (hk : k ≤ P.length) (h1 : ∀ x ∈ P.drop k, befL l x = true) (h2 : ∀ y, k ≠ 0 → P[k - 1]? = some y → befL l y = false) : RefRow G ps (S ++ [s]) (P.take k ++ l :: P.drop k) := by
 refine ⟨ins_rise h.1 (fun hx => ?_) hk h1 h2, fun x => ?_⟩
 ·obtain ⟨t, ht, g, _⟩ := (h.2 l).1 hx
  exact hn t ht g
 ·rw [mem_ins, h.2]
  constructor
  ·rintro (rfl | ⟨t, ht, g⟩)
   ·exact ⟨s, by simp, hl, hp⟩
   ·exact ⟨t, List.mem_append_left _ ht, g⟩
  ·rintro ⟨t, ht, g1, g2⟩
   rcases List.mem_append.1 ht with ht | ht
   ·exact .inr ⟨t, ht, g1, g2⟩
   ·rw [List.mem_singleton] at ht
    subst ht
    rw [hl, Option.some.injEq] at g1
    exact .inl g1.symm
theorem sets_apart {G : Gr} {k : Nat} {S : List (List Int)} (hS : setsV G k S) {i j : Nat} {s t l : List Int} (hi : S[i]? = some s) (hj : S[j]? = some t) (hij : i ≠ j) (h1 : listV G s = some l) : listV G t ≠ some l := by
 intro h2
 have hs := ((hS.2 s).1 (List.mem_of_getElem? hi)).1.1
 have ht := ((hS.2 t).1 (List.mem_of_getElem? hj)).1.1
 have e1 : setOf s = s := rise_eq (setOf_spec s).1 hs (setOf_spec s).2
 have e2 : setOf t = t := rise_eq (setOf_spec t).1 ht (setOf_spec t).2
 have p1 := (listV_spec h1).1
 have p2 := (listV_spec h2).1
 rw [e1] at p1
 rw [e2] at p2
 have hp := p1.symm.trans p2
 have : s = t := rise_eq hs ht fun x => hp.mem_iff
 subst this
 have hil : i < S.length := by
  rcases Nat.lt_or_ge i S.length with h | h
  ·exact h
  ·rw [List.getElem?_eq_none h] at hi; cases hi
 have hjl : j < S.length := by
  rcases Nat.lt_or_ge j S.length with h | h
  ·exact h
  ·rw [List.getElem?_eq_none h] at hj; cases hj
 rw [List.getElem?_eq_getElem hil, Option.some.injEq] at hi
 rw [List.getElem?_eq_getElem hjl, Option.some.injEq] at hj
 have hq := List.pairwise_iff_getElem.1 hS.1
 rcases Nat.lt_or_ge i j with g | g
 ·exact hq i j hil hjl g (by rw [hi, hj])
 ·exact hq j i hjl hil (by omega) (by rw [hi, hj])
end Go.Proofs.YtjejpdfldmempaaGreatDoor
end
section
namespace Go.Proofs.YtjejpdfldmempaaGreatDoor
open Go.Gr
def wordsG (G : Gr) (e : Bool) : Gr := if e = true then lnGr G else G
theorem words_ok {G : Gr} (hG : G.Ok) (hn : G.labels.length ≤ 10) (hm : G.edges.length ≤ 30) (e : Bool) : (wordsG G e).Ok := by
 unfold wordsG
 split
 ·have := pairs_small hG hn hm
  exact lnGr_ok hG (by omega) (by omega)
 ·exact hG
theorem words_len (G : Gr) (e : Bool) : (wordsG G e).labels.length = if e = true then G.edges.length else G.labels.length := by
 unfold wordsG
 cases e with
 | true => rw [if_pos rfl, if_pos rfl]; exact List.length_replicate
 | false => rfl
theorem words_lof {G : Gr} (hG : G.Ok) (hn : G.labels.length ≤ 10) (hm : G.edges.length ≤ 30) : lofY G = .tuple [dG (wordsG G true), .nili] := lofY_small hG hn hm
def keepsG (l : List Opp) (p : Pt) : Bool := (pErr p).isNone && l.all fun o => holdsO o p
def psJ (G : Gr) (e : Bool) (l : List Opp) (x : List Int) : Bool := linkedV (wordsG G e) x && if e = true then decide ((vertsOf (endsOf G.edges x)).length ≤ 8) && keepsG l (edgeP G x) else decide (x.length ≤ 8) && keepsG l (vertP G x)
def sumP (G : Gr) (ps : List Int → Bool) (m : Nat) : Nat := ((List.range m).map fun k => (rowP G ps k).length).sum
theorem sumP_step (G : Gr) (ps : List Int → Bool) (m : Nat) : sumP G ps (m + 1) = sumP G ps m + (rowP G ps m).length := by
 unfold sumP
 rw [List.range_succ, List.map_append, List.sum_append]; simp
theorem sumP_le {G : Gr} (hG : G.Ok) (ps : List Int → Bool) : ∀ m, sumP G ps m ≤ m * 2 ^ G.labels.length
 | 0 => by simp [sumP]
 | m + 1 => by
   rw [sumP_step, Nat.succ_mul]
   have := sumP_le hG ps m
   have := rowP_len hG ps m
   omega
theorem sumP_mono (G : Gr) (ps : List Int → Bool) {m d : Nat} (h : m ≤ d) : sumP G ps m ≤ sumP G ps d := by
 induction d with
 | zero => rw [show m = 0 by omega]; exact Nat.le_refl _
 | succ d ih =>
   rw [sumP_step]
   rcases Nat.lt_or_ge d m with g | g
   ·rw [show m = d + 1 by omega, sumP_step]; exact Nat.le_refl _
   ·have := ih g; omega
theorem sumP_few {G : Gr} (hG : G.Ok) (ps : List Int → Bool) (hn : G.labels.length ≤ 8) {m : Nat} (hm : m ≤ 8) : sumP G ps m ≤ 2048 := by
 have h1 := sumP_le hG ps m
 have h2 : 2 ^ G.labels.length ≤ 256 := Nat.le_trans (Nat.pow_le_pow_right (by decide) hn) (by decide)
 have h3 : m * 2 ^ G.labels.length ≤ 8 * 256 := Nat.mul_le_mul hm h2
 omega
def keptL (G : Gr) (ps : List Int → Bool) (l : List Int) : Bool := decide (l ≠ []) && canonV G l && allP ps l
theorem grow_kept {G : Gr} {ps : List Int → Bool} {l : List Int} (h : keptL G ps l = true) : ((nextV G l).filter fun v => keptL G ps (l ++ [v])).map (fun v => l ++ [v]) = growP G ps l := by
 unfold keptL at h
 rw [Bool.and_eq_true, Bool.and_eq_true] at h
 obtain ⟨⟨_, hc⟩, ha⟩ := h
 unfold growP growL growV
 rw [if_pos hc, List.filter_map, List.filter_filter]
 congr 1
 refine List.filter_congr fun v _ => ?_
 unfold keptL
 rw [canon_snoc, allP_snoc, hc, ha]
 simp [Bool.and_comm]
theorem keeps_ref {l : List Opp} {p : Pt} {n : Nat} (hp : PtOk n p) (hl : ∀ o ∈ l, codeO o = 0) : (l.all fun o => refO o p) = l.all fun o => holdsO o p := by
 induction l with
 | nil => rfl
 | cons o l ih =>
   rw [List.all_cons, List.all_cons, ih fun x hx => hl x (List.mem_cons_of_mem _ hx)]
   have h0 := hl o List.mem_cons_self
   unfold codeO at h0
   rw [holds_ref hp]
   ·apply Classical.byContradiction; intro h; rw [if_pos (.inl (by omega))] at h0; omega
   ·apply Classical.byContradiction; intro h; rw [if_pos (.inr (by omega))] at h0; omega
end Go.Proofs.YtjejpdfldmempaaGreatDoor
end
