/- vert: plain laws: the list of a set: its vertices, and that it is canonical. · vert: plain laws for VertGrowth: a graph with an edge less; what is beside. -/
import Derived.Test.YtmkbgbnehokmmaaGreatVlc
import Derived.Test.YtmkbgbnehokmmaaGreatRfa
namespace Go.Proofs.YtmkbgbnehokmmaaGreat
open Go.Gr
theorem findIdx_erase {p : Int → Bool} {l : List Int} {i : Nat} (h : l.findIdx? p = some i) : ∃ (h2 : i < l.length), p l[i] = true ∧ ∀ j (hj : j < i), p (l[j]'(by omega)) = false := by
  rw [List.findIdx?_eq_some_iff_getElem] at h
  obtain ⟨h1, h2, h3⟩ := h
  exact ⟨h1, h2, fun j hj => by have := h3 j hj; simpa using this⟩
theorem nod_inj {l : List Int} (h : l.Nodup) {i j : Nat} (hi : i < l.length) (hj : j < l.length) (e : l[i] = l[j]) : i = j := by
  rcases Nat.lt_trichotomy i j with h1 | h1 | h1
  · exact absurd e (List.pairwise_iff_getElem.1 h i j hi hj h1)
  · exact h1
  · exact absurd e.symm (List.pairwise_iff_getElem.1 h j i hj hi h1)
theorem erase_perm {l : List Int} {i : Nat} (hi : i < l.length) : (l[i] :: l.eraseIdx i).Perm l := by
  rw [List.eraseIdx_eq_take_drop_succ]
  have h : l = l.take i ++ (l[i] :: l.drop (i + 1)) := by rw [List.getElem_cons_drop, List.take_append_drop]
  exact (List.perm_middle.symm).trans (List.Perm.of_eq h.symm)
theorem mem_erase_at {l : List Int} (hn : l.Nodup) {i : Nat} (hi : i < l.length) {x : Int} : x ∈ l.eraseIdx i ↔ x ∈ l ∧ x ≠ l[i] := by
  have e := List.eraseIdx_eq_take_drop_succ l i
  rw [e, List.mem_append, List.mem_take_iff_getElem, List.mem_drop_iff_getElem]
  constructor
  · rintro (⟨j, hj, rfl⟩ | ⟨j, hj, rfl⟩)
    · exact ⟨List.getElem_mem _, fun he => by have := nod_inj hn (by omega) (by omega) he; omega⟩
    · exact ⟨List.getElem_mem _, fun he => by have := nod_inj hn (by omega) (by omega) he; omega⟩
  · rintro ⟨hx, hne⟩
    obtain ⟨j, hj, rfl⟩ := List.mem_iff_getElem.1 hx
    rcases Nat.lt_trichotomy j i with h | h | h
    · exact .inl ⟨j, by omega, rfl⟩
    · subst h; exact absurd rfl hne
    · exact .inr ⟨j - (i + 1), by omega, by congr 1; omega⟩
/-- the state behind some that were put: what is left rises; those that are apart; what was put is of the set -/
theorem listR_perm {E : List Edg} : ∀ (n : Nat) (l left r : List Int), left.length = n → left.Nodup → listR E n l left = some r → r.Perm (l ++ left)
  | 0, l, left, r, hn, _, h => by
    simp only [listR, Option.some.injEq] at h
    subst h
    have : left = [] := List.eq_nil_of_length_eq_zero hn
    subst this; simp
  | n + 1, l, left, r, hn, hd, h => by
    simp only [listR] at h
    cases hf : left.findIdx? (nextP E l) with
    | none => rw [hf] at h; cases h
    | some i =>
      rw [hf] at h
      obtain ⟨hi, _, _⟩ := findIdx_erase hf
      have hx := List.getElem?_eq_getElem hi
      simp only [hx, Option.getD_some] at h
      have := listR_perm n (l ++ [left[i]]) (left.eraseIdx i) r (by rw [List.length_eraseIdx, if_pos hi]; omega) (hd.sublist (List.eraseIdx_sublist left i)) h
      refine this.trans ?_
      rw [List.append_assoc]
      exact List.Perm.append_left l (erase_perm hi)
theorem nextP_iff {E : List Edg} {l : List Int} {v : Int} : nextP E l v = true ↔ l = [] ∨ l.any (besP E v) = true := by
  unfold nextP besV
  rw [Bool.or_eq_true, decide_eq_true_eq, decide_eq_true_eq, idxF_nn]
/-- what was put stood ahead of all that might have come then and is left -/
def Ahead (E : List Edg) (l left : List Int) : Prop := ∀ (j : Nat) (u : Int), l[j]? = some u → ∀ x ∈ left, nextP E (l.take j) x = true → u < x
theorem fits_next {G : Gr} {l left : List Int} {x : Int} (hA : Ahead G.edges l left) (hx : x ∈ left) (hn : x ∉ l) (hv : hasV G x = true) (hp : nextP G.edges l x = true) : fitsV G l x = true := by
  unfold fitsV
  cases h0 : l[0]? with
  | none => exact hv
  | some y =>
    have hl : l ≠ [] := fun e => by subst e; simp at h0
    have hany := (nextP_iff.1 hp).resolve_left hl
    have hy := hA 0 y h0 x hx (nextP_iff.2 (.inl (by simp)))
    simp only
    cases hf : l.findIdx? (besP G.edges x) with
    | none =>
      rw [List.findIdx?_eq_none_iff] at hf
      rw [List.any_eq_true] at hany
      obtain ⟨u, hu, hb⟩ := hany
      have := hf u hu
      simp [hb] at this
    | some i =>
      obtain ⟨hi, hb, _⟩ := findIdx_erase hf
      simp only [Bool.and_eq_true, Bool.not_eq_true', decide_eq_false_iff_not, List.any_eq_false, decide_eq_true_eq]
      refine ⟨hn, by omega, fun u hu => ?_⟩
      obtain ⟨k, hk, rfl⟩ := List.mem_drop_iff_getElem.1 hu
      have := hA (i + 1 + k) _ (List.getElem?_eq_getElem (by omega)) x hx (nextP_iff.2 (.inr (List.any_eq_true.2 ⟨l[i], List.mem_take_iff_getElem.2 ⟨i, by omega, rfl⟩, hb⟩)))
      omega
theorem ahead_step {E : List Edg} {l left : List Int} (hA : Ahead E l left) (hr : left.Pairwise (· < ·)) {i : Nat} (hf : left.findIdx? (nextP E l) = some i) {x : Int} (hx : left[i]? = some x) : Ahead E (l ++ [x]) (left.eraseIdx i) := by
  obtain ⟨hi, _, hfirst⟩ := findIdx_erase hf
  have hnod : left.Nodup := hr.imp fun h => by omega
  have hxe : x = left[i] := by rw [List.getElem?_eq_getElem hi] at hx; exact (Option.some.inj hx).symm
  intro j u hu z hz hp
  obtain ⟨hz1, hz2⟩ := (mem_erase_at hnod hi).1 hz
  by_cases hj : j < l.length
  · rw [List.getElem?_append_left hj] at hu
    rw [List.take_append_of_le_length (by omega)] at hp
    exact hA j u hu z hz1 hp
  · have hjl := (List.getElem?_eq_some_iff.1 hu).1
    rw [List.length_append, List.length_singleton] at hjl
    have hje : j = l.length := by omega
    subst hje
    rw [List.take_left] at hp
    have hux : u = x := by simpa using hu.symm
    subst hux
    obtain ⟨k, hk, rfl⟩ := List.mem_iff_getElem.1 hz1
    have hki : ¬ k < i := fun h => by have := hfirst k h; rw [hp] at this; cases this
    have hne : k ≠ i := fun e => by subst e; exact hz2 rfl
    rw [hxe]
    exact List.pairwise_iff_getElem.1 hr i k hi hk (by omega)
theorem listR_canon {G : Gr} : ∀ (n : Nat) (l left r : List Int), left.length = n → left.Pairwise (· < ·) → (l ++ left).Nodup → (∀ x ∈ left, hasV G x = true) → Ahead G.edges l left →
    (∀ (j : Nat) (v : Int), l[j]? = some v → fitsV G (l.take j) v = true) → listR G.edges n l left = some r → canonV G r = true
  | 0, l, left, r, _, _, _, _, _, hC, h => by
    simp only [listR, Option.some.injEq] at h
    subst h
    exact canonV_yes hC
  | n + 1, l, left, r, hn, hr, hd, hv, hA, hC, h => by
    simp only [listR] at h
    cases hf : left.findIdx? (nextP G.edges l) with
    | none => rw [hf] at h; cases h
    | some i =>
      rw [hf] at h
      obtain ⟨hi, hp, _⟩ := findIdx_erase hf
      have hx := List.getElem?_eq_getElem hi
      simp only [hx, Option.getD_some] at h
      have hmem := List.getElem_mem hi
      have hnl : left[i] ∉ l := fun hm => (List.nodup_append.1 hd).2.2 _ hm _ hmem rfl
      refine listR_canon n (l ++ [left[i]]) (left.eraseIdx i) r (by rw [List.length_eraseIdx, if_pos hi]; omega) (hr.sublist (List.eraseIdx_sublist left i)) ?_ (fun x hx => hv x ((List.eraseIdx_sublist left i).subset hx)) (ahead_step hA hr hf hx) ?_ h
      · rw [List.append_assoc]
        exact (List.Perm.nodup_iff (List.Perm.append_left l (erase_perm hi))).2 hd
      · intro j v hj
        by_cases hjl : j < l.length
        · rw [List.getElem?_append_left hjl] at hj
          rw [List.take_append_of_le_length (by omega)]
          exact hC j v hj
        · have h1 := (List.getElem?_eq_some_iff.1 hj).1
          rw [List.length_append, List.length_singleton] at h1
          have hje : j = l.length := by omega
          subst hje
          have hvx : v = left[i] := by simpa using hj.symm
          subst hvx
          rw [List.take_left]
          exact fits_next hA hmem hnl (hv _ hmem) hp
/-- the list of a set: a permutation of it, and canonical -/
theorem listV_spec {G : Gr} {s r : List Int} (h : listV G s = some r) : r.Perm (setOf s) ∧ canonV G r = true := by
  unfold listV at h
  split at h
  · cases h
  · rename_i hv
    have hr := (setOf_spec s).1
    have hd : (setOf s).Nodup := hr.imp fun h => by omega
    refine ⟨by simpa using listR_perm _ _ _ _ rfl hd h, listR_canon _ _ _ _ rfl hr (by simpa using hd) (fun x hx => ?_) (fun j u hu => by simp at hu) (fun j u hu => by simp at hu) h⟩
    simp only [List.any_eq_true, not_exists, not_and, Bool.not_eq_true', Bool.not_eq_false] at hv
    exact hv x hx
theorem listR_stuck {E : List Edg} : ∀ (n : Nat) (l left : List Int), left.length = n → listR E n l left = none → ∃ l' left', (l' ++ left').Perm (l ++ left) ∧ left' ≠ [] ∧ ∀ x ∈ left', nextP E l' x = false
  | 0, l, left, _, h => by simp [listR] at h
  | n + 1, l, left, hn, h => by
    simp only [listR] at h
    cases hf : left.findIdx? (nextP E l) with
    | none =>
      rw [List.findIdx?_eq_none_iff] at hf
      exact ⟨l, left, List.Perm.refl _, fun e => by subst e; simp at hn, fun x hx => by simpa using hf x hx⟩
    | some i =>
      rw [hf] at h
      obtain ⟨hi, _, _⟩ := findIdx_erase hf
      simp only [List.getElem?_eq_getElem hi, Option.getD_some] at h
      obtain ⟨l', left', h1, h2, h3⟩ := listR_stuck n (l ++ [left[i]]) (left.eraseIdx i) (by rw [List.length_eraseIdx, if_pos hi]; omega) h
      refine ⟨l', left', h1.trans ?_, h2, h3⟩
      rw [List.append_assoc]
      exact List.Perm.append_left l (erase_perm hi)
theorem canon_beside {G : Gr} {a : List Int} (h : canonV G a = true) {k : Nat} (hk : 0 < k) (hl : k < a.length) : ∃ (j : Nat) (hj : j < k), turn ⟨a[j]'(by omega), a[k]⟩ ∈ G.edges := by
  have hf : fitsV G (a.take k) a[k] = true := by
    cases hh : fitsV G (a.take k) a[k] with
    | true => rfl
    | false => rw [canonV_no (List.getElem?_eq_getElem hl) hh] at h; cases h
  unfold fitsV at hf
  have h0 : (a.take k)[0]? = some (a[0]'(by omega)) := by rw [List.getElem?_take, if_pos hk, List.getElem?_eq_getElem (by omega)]
  rw [h0] at hf
  simp only at hf
  cases hh : (a.take k).findIdx? (besP G.edges a[k]) with
  | none => rw [hh] at hf; cases hf
  | some j =>
    obtain ⟨h1, h2, _⟩ := findIdx_erase hh
    have hjk : j < k := by rw [List.length_take] at h1; omega
    refine ⟨j, hjk, ?_⟩
    simp only [besP, decide_eq_true_eq, List.getElem_take] at h2
    exact h2
/-- with more edges no set loses its list -/
theorem listV_mono {G G' : Gr} (hlab : G'.labels = G.labels) (hE : ∀ e ∈ G'.edges, e ∈ G.edges) {s a : List Int} (h : listV G' s = some a) : ∃ b, listV G s = some b := by
  obtain ⟨hp, hc⟩ := listV_spec h
  unfold listV at h ⊢
  have hh : ∀ v, hasV G v = hasV G' v := fun v => by simp [hasV, hlab]
  simp only [hh]
  split at h
  · cases h
  · rename_i hv
    rw [if_neg hv]
    cases hr : listR G.edges (setOf s).length [] (setOf s) with
    | some b => exact ⟨b, rfl⟩
    | none =>
      exfalso
      obtain ⟨l, left, h1, h2, h3⟩ := listR_stuck _ _ _ rfl hr
      rw [List.nil_append] at h1
      have hl : l ≠ [] := fun e => by
        obtain ⟨x, hx⟩ := List.exists_mem_of_ne_nil _ h2
        have := h3 x hx
        rw [nextP_iff.2 (.inl e)] at this; cases this
      have hmem : ∀ x, x ∈ a ↔ x ∈ l ∨ x ∈ left := fun x => by rw [hp.mem_iff, ← h1.mem_iff, List.mem_append]
      have hdis : ∀ x, x ∈ l → ¬ x ∈ left := fun x hx hy => by
        have hd : (l ++ left).Nodup := h1.nodup_iff.2 ((setOf_spec s).1.imp fun h => by omega)
        exact (List.nodup_append.1 hd).2.2 x hx x hy rfl
      have hno : ∀ x ∈ left, ∀ u ∈ l, ¬ turn ⟨u, x⟩ ∈ G.edges := fun x hx u hu he => by
        have := h3 x hx
        rw [nextP_iff.2 (.inr (List.any_eq_true.2 ⟨u, hu, by simpa [besP] using he⟩))] at this; cases this
      obtain ⟨x1, hx1⟩ := List.exists_mem_of_ne_nil _ hl
      obtain ⟨x2, hx2⟩ := List.exists_mem_of_ne_nil _ h2
      have hpos : 0 < a.length := List.length_pos_iff.2 (fun e => by have := (hmem x1).2 (.inl hx1); rw [e] at this; cases this)
      cases hf : a.findIdx? (fun x => decide (x ∈ left) != decide (a[0] ∈ left)) with
      | none =>
        rw [List.findIdx?_eq_none_iff] at hf
        have g1 := hf x1 ((hmem x1).2 (.inl hx1))
        have g2 := hf x2 ((hmem x2).2 (.inr hx2))
        have g3 := hdis x1 hx1
        simp [g3] at g1
        simp [hx2] at g2
        exact absurd g2 g1
      | some k =>
        obtain ⟨hk, hk2, hk3⟩ := findIdx_erase hf
        have hk0 : 0 < k := by
          rcases Nat.eq_zero_or_pos k with e | e
          · subst e; simp at hk2
          · exact e
        obtain ⟨j, hj, he⟩ := canon_beside hc hk0 hk
        have he := hE _ he
        have hj3 := hk3 j hj
        have m1 := (hmem a[k]).1 (List.getElem_mem hk)
        have m2 := (hmem (a[j]'(by omega))).1 (List.getElem_mem _)
        generalize a[k] = y at *
        generalize a[j]'(by omega) = z at *
        by_cases c0 : a[0] ∈ left
        · simp [c0] at hk2 hj3
          have : y ∈ l := m1.resolve_right hk2
          rw [turn_sym] at he
          exact hno z hj3 y this he
        · simp [c0] at hk2 hj3
          have : z ∈ l := m2.resolve_right hj3
          exact hno y hk2 z this he
end Go.Proofs.YtmkbgbnehokmmaaGreat

namespace Go.Proofs.YtmkbgbnehokmmaaGreat
open Go.Gr
theorem turn_ok {G : Gr} (h : G.Ok) {e : Edg} (he : e ∈ G.edges) : turn e = e := turn_le (by have := h.edge e he; omega)
theorem map_turn_ok {G : Gr} (h : G.Ok) : G.edges.map turn = G.edges := by
  have : G.edges.map turn = G.edges.map id := List.map_congr_left fun e he => turn_ok h he
  rw [this, List.map_id]
theorem ok_canon {G : Gr} (h : G.Ok) : canon G.edges = G.edges := (canon_eq (by rw [map_turn_ok h]; exact h.sorted.nodup) (by rw [map_turn_ok h]) (Strict.le h.sorted)).symm
theorem ok_err {G : Gr} (h : G.Ok) : newErr G.labels G.edges = none := by
  have h1 := h.size
  have h2 := h.esize
  refine newErr_none (by omega) (fun x hx => ?_) (fun j hj => ?_)
  · have := h.lab x hx
    simp only [badLabel, Bool.or_eq_false_iff, decide_eq_false_iff_not]; omega
  · have hx := List.getElem?_eq_getElem hj
    have hb := h.edge _ (List.getElem_mem hj)
    have ht := turn_ok h (List.getElem_mem hj)
    unfold ecodeAt
    rw [hx]
    simp only
    unfold ecode
    rw [if_neg (by omega), if_neg (by omega), if_neg ?_]
    rw [ht]
    intro hm
    obtain ⟨e, he, h3⟩ := List.mem_map.1 hm
    rw [turn_ok h (List.mem_of_mem_take he)] at h3
    obtain ⟨i, hi, rfl⟩ := List.mem_take_iff_getElem.1 he
    have := strict_get h.sorted (List.getElem?_eq_getElem (by omega)) hx (show i < j by omega)
    rw [h3] at this
    exact cmpE_irr _ this
theorem tail_ok {G : Gr} (h : G.Ok) : Gr.Ok ⟨G.labels, G.edges.tail⟩ where
  size := h.size
  esize := by have := h.esize; rw [List.length_tail]; omega
  lab := h.lab
  edge := fun e he => h.edge e (List.mem_of_mem_tail he)
  sorted := h.sorted.sublist (List.tail_sublist _)
theorem made_less {G : Gr} (h : G.Ok) (hn : G.labels.length ≤ 10) (hm : G.edges.length ≤ 30) : madeY G.labels G.edges.tail = .tuple [dG ⟨G.labels, G.edges.tail⟩, dM G.labels G.edges.tail, .bool true] := by
  have ho := tail_ok h
  have e1 := ok_err ho
  have e2 := ok_canon ho
  simp only at e1 e2
  unfold madeY madeG
  rw [if_pos ⟨hn, by rw [List.length_tail]; omega⟩, e1]
  simp only [e2]
theorem mem_nearI {G : Gr} (h : G.Ok) {v u : Int} : u ∈ nearI G v ↔ (0 ≤ v ∧ v < G.labels.length) ∧ 0 ≤ u ∧ u < G.labels.length ∧ turn ⟨u, v⟩ ∈ G.edges := by
  unfold nearI
  split
  · rename_i hv
    obtain ⟨m, rfl⟩ := Int.eq_ofNat_of_zero_le hv.1
    rw [Int.toNat_natCast, mem_near h]
    exact ⟨fun hh => ⟨hv, hh⟩, fun hh => hh.2⟩
  · rename_i hv
    exact ⟨fun hh => (by cases hh), fun hh => absurd hh.1 hv⟩
/-- what is beside stays beside with more edges -/
theorem next_mono {G G' : Gr} (hG : G.Ok) (hG' : G'.Ok) (hlab : G'.labels = G.labels) (hE : ∀ e ∈ G'.edges, e ∈ G.edges) {a b : List Int} (hab : a.Perm b) : ∀ x ∈ nextV G' a, x ∈ nextV G b := by
  intro x hx
  unfold nextV at hx ⊢
  by_cases ha : a = []
  · have hb : b = [] := by subst ha; exact hab.nil_eq.symm
    rw [if_pos ha] at hx
    rw [if_pos hb, ← hlab]; exact hx
  · have hb : b ≠ [] := fun e => ha (by subst e; exact hab.eq_nil)
    rw [if_neg ha] at hx
    rw [if_neg hb]
    simp only [List.mem_filter, Bool.not_eq_true', decide_eq_false_iff_not] at hx ⊢
    rw [(setOf_spec _).2, (setOf_spec _).2] at hx ⊢
    obtain ⟨h1, h2⟩ := hx
    refine ⟨?_, fun h => h2 (hab.mem_iff.2 h)⟩
    rw [List.mem_flatMap] at h1 ⊢
    obtain ⟨v, hv, hx⟩ := h1
    refine ⟨v, hab.mem_iff.1 hv, ?_⟩
    rw [mem_nearI hG'] at hx
    rw [mem_nearI hG, ← hlab]
    exact ⟨hx.1, hx.2.1, hx.2.2.1, hE _ hx.2.2.2⟩
end Go.Proofs.YtmkbgbnehokmmaaGreat
